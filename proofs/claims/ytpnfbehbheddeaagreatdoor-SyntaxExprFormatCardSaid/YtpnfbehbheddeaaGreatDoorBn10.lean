/- Contracts of the tape's Text, Int and Value: a valid value comes back, and only the tape's own block has changed. How a row of terms that came in is opened. No condition. Contracts of the laws' plus and awake; the table of powers of ten is as it is laid. Contract of the program's resultType. How many terms a well-formed expression of a depth has. Plain Lean, no condition. Contract of appendTerms: the terms of a tree, with the columns of its references. The numbers of references are in range; at most 1000000 terms. Contract of an expression's resolve: the look-up of its references. At most 1000000 terms and references, names of at most 1000000 columns. The trees that the parser of expressions builds: their references are in range, and they are no larger than what has been read. Plain Lean, no condition. Parsing takes back what formatting gives, in plain Lean. No condition. -/
import Derived.Test.YtpnfbehbheddeaaGreatDoorBn09
import Derived.Test.YtpnfbehbheddeaaGreatDoorBn00
import Derived.Test.YtpnfbehbheddeaaGreatDoorBn01
import Derived.Test.YtpnfbehbheddeaaGreatDoorBn06
import Derived.Test.YtpnfbehbheddeaaGreatDoorBn03
import Derived.Test.YtpnfbehbheddeaaGreatDoorBn08
import Derived.Test.YtpnfbehbheddeaaGreatDoorBn02
import Derived.Lib.ItoaMem
namespace Go.Proofs.YtpnfbehbheddeaaGreatDoor
set_option maxRecDepth 100000
set_option maxHeartbeats 8000000
set_option linter.unusedVariables false
set_option linter.unusedSimpArgs false
open Go.RowKit
theorem grown_trans {a b c : World} {r : Option Nat} (h : a.grownBy b r) (k : b.grownBy c r) : a.grownBy c r := grown_two h (.inl rfl) (Nat.le_refl _) k
theorem grown_of_below {a w : World} (h : Below a.heap.size a w) (r : Option Nat) : a.grownBy w r := ⟨h.os, h.tape, h.output, h.size, fun i hi _ => h.block i hi⟩
theorem only_drew {a w : World} {row : Option Nat} (h : a.grownBy w row) : a.grownBy w.drew row := ⟨h.os, h.tape, h.output, h.size, h.block⟩
theorem only_drewN {a w : World} {row : Option Nat} (h : a.grownBy w row) (n : Nat) : a.grownBy (w.drewN n) row := ⟨h.os, h.tape, h.output, h.size, h.block⟩
theorem only_alloc {a w : World} {row : Option Nat} (h : a.grownBy w row) (o : Obj) : a.grownBy (w.alloc o) row :=
  ⟨h.os, h.tape, h.output, Nat.le_trans h.size (by simp), fun i hi hne => (Below.heap_alloc w o i (Nat.lt_of_lt_of_le hi h.size)).trans (h.block i hi hne)⟩
theorem only_setCell {a w : World} {g : Nat} {p : Addr} (h : a.grownBy w (some g)) (hp : p.block = g ∨ a.heap.size ≤ p.block) (u : Value) : a.grownBy (w.setCell p u) (some g) :=
  ⟨h.os, h.tape, h.output, by simpa [World.setCell] using h.size, fun i hi hne => (Below.heap_setCell w p u i (by
    rintro rfl
    rcases hp with hp | hp
    · exact hne (by rw [hp])
    · omega)).trans (h.block i hi hne)⟩
theorem only_step {a W w1 : World} {row : Option Nat} (hb : Below W.heap.size W w1) (h : a.grownBy W row) : a.grownBy w1 row := grown_trans h (grown_of_below hb row)
theorem only_trans {a W w1 : World} {row : Option Nat} (hb : W.grownBy w1 row) (h : a.grownBy W row) : a.grownBy w1 row := grown_trans h hb
theorem Tp.drew {w : World} {b g : Nat} (h : Tp w b g) : Tp w.drew b g := ⟨h.ne, h.lt, h.ltg, h.ex⟩
theorem Tp.step {W w1 : World} {b g : Nat} (hb : Below W.heap.size W w1) (h : Tp W b g) : Tp w1 b g := h.below hb h.lt h.ltg
theorem Tp.setFar {w : World} {b g : Nat} {p : Addr} (h : Tp w b g) (h1 : p.block ≠ b) (h2 : p.block ≠ g) (u : Value) : Tp (w.setCell p u) b g :=
  h.grown (row := some p.block) ⟨rfl, rfl, rfl, by simp [World.setCell], fun i _ hne => Below.heap_setCell w p u i (fun e => hne (by rw [e]))⟩ (fun e => h1 (by injection e)) (fun e => h2 (by injection e))
theorem heap_two (w : World) (o o' : Obj) : ((w.alloc o).alloc o').heap[w.heap.size + 1]? = some o' := by
  have := heap_alloc_new (w.alloc o) o'
  rwa [show (w.alloc o).heap.size = w.heap.size + 1 by simp] at this
theorem heap_one (w : World) (o o' : Obj) : ((w.alloc o).alloc o').heap[w.heap.size]? = some o := by
  rw [Below.heap_alloc _ _ _ (by simp)]
  exact heap_alloc_new w o
theorem rtext (s : ByteArray) (w : World) : Calls Tryz.prog 94 #[.string s] w fun e w' => e = .returned (.agg #[.int .i64 ((V.mk 2 0 s).cl).k, .int .i64 ((V.mk 2 0 s).cl).n, .string ((V.mk 2 0 s).cl).s]) ∧ Below w.heap.size w w' := by
  go_enter Tryz.func94, Tryz.ntmps94
  go_wp2_with (go_at_call 155; refine (rclean ⟨2, 0, s⟩ _).mono ?_; rintro e w1 ⟨rfl, hb1⟩; obtain ⟨hc1, hf1⟩ := bcell hb1; have hz1 := (hb1).size; try simp at hz1)
  refine bodyPost_ret (by simp [results, Tryz.results94, go_sem, hc1]; rfl) rfl ?_
  exact ⟨rfl, by (exact belQ)⟩
theorem rint (n : Int) (w : World) : Calls Tryz.prog 95 #[.int .i64 n] w fun e w' => e = .returned (.agg #[.int .i64 ((V.mk 1 n ⟨#[]⟩).cl).k, .int .i64 ((V.mk 1 n ⟨#[]⟩).cl).n, .string ((V.mk 1 n ⟨#[]⟩).cl).s]) ∧ Below w.heap.size w w' := by
  go_enter Tryz.func95, Tryz.ntmps95
  go_wp2_with (go_at_call 155; refine (rclean ⟨1, n, ⟨#[]⟩⟩ _).mono ?_; rintro e w1 ⟨rfl, hb1⟩; obtain ⟨hc1, hf1⟩ := bcell hb1; have hz1 := (hb1).size; try simp at hz1)
  refine bodyPost_ret (by simp [results, Tryz.results95, go_sem, hc1]; rfl) rfl ?_
  exact ⟨rfl, by (exact belQ)⟩
open Go.ChangeShapes Go.WideShapes Go.Deep
theorem list5 {α : Type} {l : List α} (h : l.length = 5) : ∃ a b c d e, l = [a, b, c, d, e] := by
  match l, h with
  | [a, b, c, d, e], _ => exact ⟨a, b, c, d, e, rfl⟩
theorem cellsTm : Tryz.prog.cellsOf 40 = 5 := by kernel_rfl
section
variable {H : Type} {enc : TypeId × Value → H} {w : World} {base : Nat} {spare : Nat → Bool} {held : Bool} {fuel : Nat}
theorem openT {cs : List Value} {x : DataW H × List MemPlace} (h : DataW.trod enc Tryz.prog w base spare held fuel 40 cs = some x) : ∃ t : T, cs = t.cells := by
  obtain ⟨ys, n, _, _, hl, hyl, hf⟩ := DataW.trod_struct Tryz.underlying40 h
  rw [cellsTm] at hl
  obtain ⟨c0, c1, c2, c3, c4, rfl⟩ := list5 hl
  obtain ⟨y0, y1, y2, rfl⟩ := list3 (l := ys) hyl
  have h0 : DataW.trod enc Tryz.prog w base spare held n 3 [c0] = some y0 := by simpa [cellsInt] using hf 0 _ rfl
  have h1 : DataW.trod enc Tryz.prog w base spare held n 36 [c1, c2, c3] = some y1 := by simpa [cellsInt, cellsV] using hf 1 _ rfl
  have h2 : DataW.trod enc Tryz.prog w base spare held n 3 [c4] = some y2 := by simpa [cellsInt, cellsV] using hf 2 _ rfl
  obtain ⟨k, e0, _⟩ := DataW.trod_int Tryz.underlying3 h0
  obtain ⟨v, e1⟩ := openV h1
  obtain ⟨m, e2, _⟩ := DataW.trod_int Tryz.underlying3 h2
  simp [V.cells] at e0 e1 e2
  obtain ⟨e1, e3, e4⟩ := e1
  subst e0 e1 e2 e3 e4
  exact ⟨⟨k, v, m⟩, rfl⟩
theorem open_rowT {A : Option Addr} {n c : Nat} {x : DataW H × List MemPlace} (h : DataW.trod enc Tryz.prog w base spare held fuel 27 [.slice A n c] = some x) : n ≤ maxLen ∧ ∃ ts, RowT w w.heap.size A n ts := by
  rcases open_slice Tryz.underlying27 h with ⟨h0, _⟩ | ⟨a, len, cap, m, n', D, Pl, hcs, hb, hl, hm, hmm, _, hi⟩
  · simp at h0
    obtain ⟨rfl, rfl, rfl⟩ := h0
    exact ⟨Nat.zero_le _, [], RowOf.nil_⟩
  · simp at hcs
    obtain ⟨rfl, rfl, rfl⟩ := hcs
    refine ⟨by omega, ?_⟩
    have hnm : n ≤ m := by rw [hmm]; split <;> omega
    have h3 := cellsTm
    obtain ⟨vs, hv1, hv2⟩ := exists_list (P := fun i v => ∀ j u, (T.cells v)[j]? = some u → w.cell? ((a.add (i * 5)).add j) = some u) n (fun i hin => by
      obtain ⟨cs', hc, ht⟩ := hi i (by omega)
      rw [h3] at hc
      obtain ⟨v, rfl⟩ := openT ht
      obtain ⟨_, hcl, hat⟩ := World.cells?_some hc
      exact ⟨v, fun j u hu => (hat j (show j < 5 from (List.getElem?_eq_some_iff.1 hu).1)).trans hu⟩)
    refine ⟨vs, hv1, fun hne => ?_⟩
    have hpos : 0 < n := by
      rcases Nat.eq_zero_or_pos n with h0 | h0
      · subst h0
        rw [List.eq_nil_of_length_eq_zero hv1] at hne
        exact absurd rfl hne
      · exact h0
    obtain ⟨b, off, spot⟩ := a
    have hl0 : 0 < vs.length := by omega
    have hc0 := hv2 0 vs[0] (List.getElem?_eq_getElem hl0) 0 _ rfl
    have hspot : spot = none := by simpa [Addr.add] using World.cell?_spot hc0
    subst hspot
    refine ⟨b, off, rfl, by simpa [Addr.add] using cell_lt hc0, fun j u hu => ?_⟩
    have hj : j < vs.length * 5 := by
      have := (List.getElem?_eq_some_iff.1 hu).1
      rwa [flatMap_len 5 (fun _ => rfl)] at this
    have hq : j / 5 < vs.length := by omega
    have hx := flatMap_at (cells := T.cells) 5 (fun _ => rfl) vs (j / 5) (j % 5) vs[j / 5] _ (List.getElem?_eq_getElem hq) (List.getElem?_eq_getElem (show j % 5 < (T.cells vs[j / 5]).length by simp [T.cells]; omega))
    have he : j / 5 * 5 + j % 5 = j := by omega
    rw [he, hu] at hx
    have hf := hv2 (j / 5) _ (List.getElem?_eq_getElem hq) (j % 5) _ (List.getElem?_eq_getElem (show j % 5 < (T.cells vs[j / 5]).length by simp [T.cells]; omega))
    rw [← hx] at hf
    rw [Go.Deep.add_add, he] at hf
    rwa [addr_add] at hf
end
theorem RowOf.to {α : Type} {cells : α → List Value} {w w' : World} {A : Option Addr} {n : Nat} {xs : List α} (h : RowOf cells w w.heap.size A n xs) (hb : Below w.heap.size w w') : RowOf cells w' w'.heap.size A n xs := (h.below hb).more hb.size
abbrev RowI := @RowOf Int (fun z => [Value.int .i64 z])
theorem RowI.at1 {w : World} {B n : Nat} {A : Option Addr} {zs : List Int} (h : RowI w B A n zs) {k : Nat} (hk : k < n) :
   ∃ b off z, A = some ⟨b, off, none⟩ ∧ b < B ∧ zs[k]? = some z ∧ w.cell? ⟨b, off + k, none⟩ = some (.int .i64 z) := by
  obtain ⟨b, off, s, h1, h2, h3, h4⟩ := h.at_ 1 (fun _ => rfl) (by omega) hk
  have := h4 0 _ rfl
  rw [Nat.mul_one] at this
  exact ⟨b, off, s, h1, h2, h3, this⟩
mutual
theorem X.size_le (x : X) (hw : x.wf = true) : 2 * x.flat.length + 1 ≤ 3 ^ x.depth := by
  match x with
  | .node t ks =>
    simp only [X.wf, Bool.and_eq_true, decide_eq_true_eq] at hw
    have h := sizes_le ks hw.2.2
    have ha := ar_le t.op
    rw [X.flat_node, List.length_cons, X.depth, Nat.pow_succ]
    have hp : 1 ≤ 3 ^ deepest ks := Nat.one_le_pow _ _ (by omega)
    have h3 : ks.length ≤ 3 := by omega
    generalize 3 ^ deepest ks = p at h hp
    have hm : ks.length = 0 ∨ ks.length = 1 ∨ ks.length = 2 ∨ ks.length = 3 := by omega
    rcases hm with e | e | e | e <;> rw [e] at h <;> omega
theorem sizes_le (xs : List X) (hw : wfs xs = true) : 2 * (flats xs).length + xs.length ≤ xs.length * 3 ^ deepest xs := by
  match xs with
  | [] => simp [flats]
  | x :: xs =>
    simp only [wfs, Bool.and_eq_true] at hw
    have h1 := X.size_le x hw.1
    have h2 := sizes_le xs hw.2
    rw [flats_cons, List.length_append, List.length_cons, deepest]
    have p1 : 3 ^ x.depth ≤ 3 ^ max x.depth (deepest xs) := Nat.pow_le_pow_right (by omega) (by omega)
    have p2 : 3 ^ deepest xs ≤ 3 ^ max x.depth (deepest xs) := Nat.pow_le_pow_right (by omega) (by omega)
    have p3 := Nat.mul_le_mul_left xs.length p2
    rw [show (xs.length + 1) * 3 ^ max x.depth (deepest xs) = xs.length * 3 ^ max x.depth (deepest xs) + 3 ^ max x.depth (deepest xs) from Nat.succ_mul _ _]
    generalize 3 ^ max x.depth (deepest xs) = q at p1 p2 p3
    generalize 3 ^ deepest xs = q2 at h2 p2 p3
    generalize 3 ^ x.depth = q1 at h1 p1
    generalize xs.length * q = m1 at p3
    generalize xs.length * q2 = m2 at h2 p3
    omega
end
theorem X.size4 {x : X} (hw : x.wf = true) (hd : x.depth ≤ 4) : x.flat.length ≤ 40 := by
  have h := X.size_le x hw
  have p : 3 ^ x.depth ≤ 3 ^ 4 := Nat.pow_le_pow_right (by omega) hd
  omega
theorem own_pfr {S : Nat → Prop} {w w' : World} {base : Nat} {e : TypeId} {size : Nat} {v : Value} {n : Nat} {xs : List Value} (h : w.ownsRow base e size v n xs) (hf : PFr S w w') (hn : ∀ k, v.ownBlock = some k → ¬ S k) : w'.ownsRow base e size v n xs := by
  refine ⟨h.1, ?_⟩
  rcases h.2 with h2 | ⟨g, cap, cur, h3, h4, h5, h6⟩
  · exact .inl h2
  · exact .inr ⟨g, cap, cur, h3, h4, (hf.block g (heap_lt h5) (hn g (by rw [h3]; rfl))).trans h5, h6⟩
def idxI (ws : List Bs) (x : Bs) : Int := match findP ws x with
  | some k => (k : Int)
  | none => -1
theorem idxFrom_map (x : Bs) : ∀ (ws : List Bs) (i : Nat), Lib.idxFromS (ws.map baL) (baL x) i = (match findP ws x with | some k => ((i + k : Nat) : Int) | none => -1) := by
  intro ws
  induction ws with
  | nil => intro i; rfl
  | cons y ws ih =>
    intro i
    unfold findP at *
    rw [List.map_cons, Lib.idxFromS, List.findIdx?_cons]
    by_cases h : y = x
    · subst h
      simp
    · have h1 : baL y ≠ baL x := fun e => h (baL_inj e)
      have h2 : (y == x) = false := by simpa using h
      rw [if_neg h1, ih, h2]
      cases ws.findIdx? (· == x) with
      | none => rfl
      | some k =>
        show ((i + 1 + k : Nat) : Int) = ((i + (k + 1) : Nat) : Int)
        omega
theorem idx_map (ws : List Bs) (x : Bs) : Lib.idxOfS (ws.map baL) (baL x) = idxI ws x := by
  unfold Lib.idxOfS idxI
  rw [idxFrom_map]
  cases findP ws x <;> simp
theorem sIndex_c {w : World} {B n c : Nat} {A : Option Addr} {ws : List Bs} (x : Bs) (hr : RowB w B A n ws) (hn : n ≤ maxLen) : Calls Tryz.prog 44 #[.slice A n c, .string ⟨x.toArray⟩] w fun e w' => e = .returned (.int .i64 (idxI ws x)) ∧ w' = w := by
  have hl := hr.len
  unfold maxLen at hn
  rcases Nat.eq_zero_or_pos n with h0 | h0
  · subst h0
    have : ws = [] := List.eq_nil_of_length_eq_zero hl
    subst this
    exact Tryz.slices_Index_string_empty A c _ w
  · obtain ⟨b, off, s, rfl, _⟩ := hr.at1 h0
    have h := Tryz.slices_Index_string b off n c (ws.map baL) (baL x) w (by rw [List.length_map, hl]; exact Nat.le_refl _) (by omega) hr.cells
    rw [List.take_of_length_le (by rw [List.length_map, hl]; exact Nat.le_refl _), idx_map] at h
    exact h
theorem findP_lt {l : List Bs} {x : Bs} {k : Nat} (h : findP l x = some k) : k < l.length := by
  unfold findP at h
  exact (List.findIdx?_eq_some_iff_findIdx_eq.1 h).1
theorem expect_lt {e : Src} {s : Ps} {ws : List Bs} (h : s.pos < e.toks.length) : s.pos + 1 ≤ (expectP e s ws).2.pos := by
  unfold expectP
  split
  · exact Nat.le_refl _
  · simp only [Ps.fail]; omega
theorem pTake_lt' {e : Src} {s : Ps} (k : Int) (h : s.pos < e.toks.length) : s.pos + 1 ≤ (takeP e s k).2.pos := by
  unfold takeP
  split
  · exact Nat.le_refl _
  · simp only [Ps.fail]; omega
theorem dig_byte (u : Nat) (h : u < 10) : (UInt8.ofNat (48 + u)).toNat = 48 + u := by rw [UInt8.toNat_ofNat', Nat.mod_eq_of_lt (by omega)]
theorem digits_facts : ∀ (n u : Nat), u ≤ n → valF 0 (Lib.decDigits u) = u ∧ (Lib.decDigits u).all isDig = true ∧ Lib.decDigits u ≠ [] ∧ (10 ≤ u → (Lib.decDigits u).head? ≠ some 48) ∧ (1 ≤ u → (Lib.decDigits u).head? ≠ some 48) ∧ (10 ≤ u → 1 < (Lib.decDigits u).length) := by
  intro n
  induction n with
  | zero =>
    intro u hu
    obtain rfl : u = 0 := by omega
    rw [Lib.decDigits_one (by omega)]
    refine ⟨by simp [valF], by decide, by simp, fun h => absurd h (by omega), fun h => absurd h (by omega), fun h => absurd h (by omega)⟩
  | succ n ih =>
    intro u hu
    by_cases h : u < 10
    · rw [Lib.decDigits_one h]
      have hb := dig_byte u h
      refine ⟨?_, ?_, by simp, fun h' => absurd h' (by omega), fun h1 => ?_, fun h' => absurd h' (by omega)⟩
      · unfold valF
        rw [List.foldl_cons, List.foldl_nil, hb]
        omega
      · rw [List.all_cons, List.all_nil, Bool.and_true]
        unfold isDig
        rw [hb]
        simp
        omega
      · rw [List.head?_cons]
        intro e
        injection e with e
        rw [e] at hb
        have : (48 : UInt8).toNat = 48 := rfl
        omega
    · obtain ⟨i1, i2, i3, i4, i5, i6⟩ := ih (u / 10) (by omega)
      have hb := dig_byte (u % 10) (by omega)
      rw [Lib.decDigits, dif_neg h]
      have hh : (Lib.decDigits (u / 10) ++ [UInt8.ofNat (48 + u % 10)]).head? = (Lib.decDigits (u / 10)).head? := by
        cases hd : Lib.decDigits (u / 10) with
        | nil => exact absurd hd i3
        | cons a l => rfl
      refine ⟨?_, ?_, by simp, fun _ => ?_, fun _ => ?_, fun _ => ?_⟩
      · rw [valF_snoc, i1, hb]; omega
      · rw [List.all_append, i2, List.all_cons, List.all_nil, Bool.and_true, Bool.true_and]
        unfold isDig
        rw [hb]
        simp
        omega
      · rw [hh]; exact i5 (by omega)
      · rw [hh]; exact i5 (by omega)
      · have : 0 < (Lib.decDigits (u / 10)).length := List.length_pos_iff.2 i3
        simp only [List.length_append, List.length_cons, List.length_nil]
        omega
theorem decB_digits (u : Nat) : decB (Lib.decDigits u) = true := by
  obtain ⟨i1, i2, i3, i4, i5, i6⟩ := digits_facts u u (Nat.le_refl _)
  unfold decB
  rw [i2, Bool.true_and]
  by_cases h : u < 10
  · rw [Lib.decDigits_one h]; rfl
  · have e1 := i6 (by omega)
    have e2 := i4 (by omega)
    rw [Bool.or_eq_true]
    right
    rw [Bool.and_eq_true, decide_eq_true_eq, bne_iff_ne]
    exact ⟨e1, e2⟩
theorem digits_head (u : Nat) (c : UInt8) (h : (Lib.decDigits u).head? = some c) : isDig c = true := by
  obtain ⟨i1, i2, i3, _⟩ := digits_facts u u (Nat.le_refl _)
  cases hd : Lib.decDigits u with
  | nil => exact absurd hd i3
  | cons a l =>
    rw [hd] at h i2
    simp at h
    subst h
    exact List.all_eq_true.1 i2 a (by simp)
theorem pInt_digits (u : Nat) (hu : u ≤ 4294967296) : pInt (Lib.decDigits u) = (⟨1, (u : Int), ⟨#[]⟩⟩, 0) := by
  have hh : (Lib.decDigits u).head? ≠ some 45 := fun e => by have := digits_head u 45 e; revert this; decide
  have e1 : digs (Lib.decDigits u) = Lib.decDigits u := by unfold digs; rw [if_neg hh]
  have e2 : negB (Lib.decDigits u) = false := by unfold negB; simpa using hh
  unfold pInt
  rw [e1, e2, (digits_facts u u (Nat.le_refl _)).1, decB_digits, if_neg (by simp), if_neg (by omega)]
  simp
theorem parse_digits (l : List UInt8) (h : ∀ c, l.head? = some c → isDig c = true ∨ c = 45) : parseO l = pInt l := by
  unfold parseO
  rw [if_neg, if_neg]
  · intro e
    rcases h 34 e with h | h <;> revert h <;> decide
  · rintro rfl
    rcases h 110 rfl with h | h <;> revert h <;> decide
end Go.Proofs.YtpnfbehbheddeaaGreatDoor
