/- Contracts of the tape's Next: whatever the tape holds, a number from 0 to n - 1 comes back and only the tape's own block has changed. n is below 2^40, the tape has fewer than 2^44 numbers. Contracts of the tape's Text, Int and Value: a valid value comes back, and only the tape's own block has changed. Contracts of the laws' plus and awake; the table of powers of ten is as it is laid. Contract of the program's resultType. How many terms a well-formed expression of a depth has. Plain Lean, no condition. Folding, in the words of lists. Plain Lean, no condition. -/
import Derived.Test.YtpnfbehbheddeaaGreatDoorBn00
import Derived.Test.YtpnfbehbheddeaaGreatDoorBn03
import Derived.Test.YtpnfbehbheddeaaGreatDoorBn01
import Derived.Test.YtpnfbehbheddeaaGreatDoorBn08
import Derived.Test.YtpnfbehbheddeaaGreatDoorBn02
import Derived.Test.YtpnfbehbheddeaaGreatDoorBn06
import Derived.Laws.MakeOwn
import Derived.Laws.Concat
namespace Go.Proofs.YtpnfbehbheddeaaGreatDoor
set_option maxRecDepth 100000
set_option maxHeartbeats 8000000
set_option linter.unusedVariables false
set_option linter.unusedSimpArgs false
open Go.RowKit
structure Tp (w : World) (b g : Nat) : Prop where
  ne : b ≠ g
  lt : b < w.heap.size
  ltg : g < w.heap.size
  ex : ∃ (A : Option Addr) (n c a off : Nat), w.heap[b]? = some (.cells #[.slice A n c, .int .i64 (a : Int)] 45 (0, 0)) ∧ n ≤ 17592186044416 ∧ a ≤ 4 * n ∧ (0 < n → A = some ⟨g, off, none⟩ ∧ ∀ j, j < n → ∃ z : Int, w.cell? ⟨g, off + j, none⟩ = some (.int .i64 z))
theorem Tp.grown {w w' : World} {b g : Nat} {row : Option Nat} (h : Tp w b g) (hg : w.grownBy w' row) (h1 : row ≠ some b) (h2 : row ≠ some g) : Tp w' b g := by
  obtain ⟨hne, hlt, hltg, A, n, c, a, off, e1, e2, e3, e4⟩ := h
  refine ⟨hne, Nat.lt_of_lt_of_le hlt hg.size, Nat.lt_of_lt_of_le hltg hg.size, A, n, c, a, off, (hg.block b hlt (Ne.symm h1)).trans e1, e2, e3, fun hn => ⟨(e4 hn).1, fun j hj => ?_⟩⟩
  obtain ⟨z, hz⟩ := (e4 hn).2 j hj
  exact ⟨z, (World.cell?_of_block (hg.block g hltg (Ne.symm h2))).trans hz⟩
theorem Tp.below {w w' : World} {b g B : Nat} (h : Tp w b g) (hb : Below B w w') (h1 : b < B) (h2 : g < B) : Tp w' b g := by
  obtain ⟨hne, hlt, hltg, A, n, c, a, off, e1, e2, e3, e4⟩ := h
  refine ⟨hne, Nat.lt_of_lt_of_le hlt hb.size, Nat.lt_of_lt_of_le hltg hb.size, A, n, c, a, off, (hb.block b h1).trans e1, e2, e3, fun hn => ⟨(e4 hn).1, fun j hj => ?_⟩⟩
  obtain ⟨z, hz⟩ := (e4 hn).2 j hj
  exact ⟨z, (World.cell?_of_block (hb.block g h2)).trans hz⟩
theorem Tp.alloc {w : World} {b g : Nat} (h : Tp w b g) (o : Obj) : Tp (w.alloc o) b g :=
  h.below ((Below.refl w.heap.size w).alloc (Nat.le_refl _) o) h.lt h.ltg
theorem blk_rules {w : World} {b : Nat} {cs : Array Value} {t : TypeId} (h : w.heap[b]? = some (.cells cs t (0, 0))) : (∀ i, w.cell? ⟨b, i, none⟩ = cs[i]?) ∧ (∀ i, w.frozen? ⟨b, i, none⟩ = false) :=
  ⟨fun i => cell_of_row w b i cs t (0, 0) h, fun i => by simp [World.frozen?, h]⟩
def NextPost (w : World) (b g : Nat) (n : Int) (e : Ending) (w' : World) : Prop :=
  ∃ r : Nat, e = .returned (.int .i64 (r : Int)) ∧ (r : Int) < max n 1 ∧ Tp w' b g ∧ w.grownBy w' (some b) ∧ w'.heap.size = w.heap.size
theorem grown_refl (w : World) (r : Option Nat) : w.grownBy w r := ⟨rfl, rfl, rfl, Nat.le_refl _, fun _ _ _ => rfl⟩
theorem grown_drewN (w : World) (r : Option Nat) (k : Nat) : w.grownBy (w.drewN k) r := ⟨rfl, rfl, rfl, Nat.le_refl _, fun _ _ _ => rfl⟩
theorem Tp.drewN {w : World} {b g : Nat} (h : Tp w b g) (k : Nat) : Tp (w.drewN k) b g := ⟨h.ne, h.lt, h.ltg, h.ex⟩
theorem next_num (X n : Int) (h2 : 2 ≤ n) (hn : n ≤ 1099511627776) : ∃ r : Nat, (wrap64 (X.tmod n + n)).tmod n = (r : Int) ∧ (r : Int) < n := by
  have h3 := Int.tmod_lt_of_pos X (show 0 < n by omega)
  have h4 := Int.lt_tmod_of_pos X (show 0 < n by omega)
  rw [IntWalk.wrap64_in _ ⟨by omega, by omega⟩, Int.tmod_eq_emod_of_nonneg (by omega)]
  have h5 := Int.emod_nonneg (X.tmod n + n) (show n ≠ 0 by omega)
  have h6 := Int.emod_lt_of_pos (X.tmod n + n) (show 0 < n by omega)
  obtain ⟨r, hr⟩ := Int.eq_ofNat_of_zero_le h5
  exact ⟨r, hr, by omega⟩
theorem next_end {w : World} {b g l c a off : Nat} {A : Option Addr} (hne : b ≠ g) (hlt : b < w.heap.size) (hltg : g < w.heap.size) (e1 : w.heap[b]? = some (.cells #[.slice A l c, .int .i64 (a : Int)] 45 (0, 0))) (e2 : l ≤ 17592186044416) (ha : a + 1 ≤ 4 * l)
    (e4 : 0 < l → A = some ⟨g, off, none⟩ ∧ ∀ j, j < l → ∃ z : Int, w.cell? ⟨g, off + j, none⟩ = some (.int .i64 z)) (k : Nat) (n X : Int) (h2 : 2 ≤ n) (hn : n ≤ 1099511627776) :
    NextPost w b g n (.returned (.int .i64 ((wrap64 (X.tmod n + n)).tmod n))) ((w.drewN k).setCell ⟨b, 1, none⟩ (.int .i64 ((a : Int) + 1))) := by
  obtain ⟨r, hr, hr2⟩ := next_num X n h2 hn
  have hz : ((w.drewN k).setCell ⟨b, 1, none⟩ (.int .i64 ((a : Int) + 1))).heap.size = w.heap.size := by simp [World.setCell]
  refine ⟨r, by rw [hr], by omega, ⟨hne, by rw [hz]; exact hlt, by rw [hz]; exact hltg, A, l, c, a + 1, off, ?_, e2, ha, fun hl => ⟨(e4 hl).1, fun j hj => ?_⟩⟩, ⟨rfl, rfl, rfl, by rw [hz]; exact Nat.le_refl _, fun i hi hni => ?_⟩, hz⟩
  · have e1' : (w.drewN k).heap[b]? = some (.cells #[.slice A l c, .int .i64 (a : Int)] 45 (0, 0)) := e1
    simp only [World.setCell, Array.getElem?_modify, e1']
    simp
  · obtain ⟨z, hz⟩ := (e4 hl).2 j hj
    exact ⟨z, (World.cell?_setCell_other (w.drewN k) ⟨b, 1, none⟩ ⟨g, off + j, none⟩ _ (fun e => hne (congrArg Addr.block e))).trans hz⟩
  · exact Below.heap_setCell (w.drewN k) ⟨b, 1, none⟩ _ i (fun e => hni (by rw [e]))
theorem next_c (b g : Nat) (n : Int) (w : World) (hn : n ≤ 1099511627776) (h : Tp w b g) : Calls Tryz.prog 16 #[.pointer (some ⟨b, 0, none⟩), .int .i64 n] w (NextPost w b g n) := by
  have HT := Lib.hid h
  obtain ⟨hne, hlt, hltg, A, l, c, a, off, e1, e2, e3, e4⟩ := h
  obtain ⟨hc, hf⟩ := blk_rules e1
  have c0 : w.cell? ⟨b, 0, none⟩ = some (.slice A l c) := hc 0
  have c1 : w.cell? ⟨b, 1, none⟩ = some (.int .i64 (a : Int)) := hc 1
  have f1 := hf 1
  clear hc hf
  have E1 := Lib.hid e1
  have E4 := Lib.hid e4
  clear e1 e4
  by_cases h2 : n < 2
  · have t0 : decide (n < 2) = true := by simpa using h2
    go_enter Tryz.func16, Tryz.ntmps16
    go_wp2_with fail
    go_quiet (fail)
    go_wp2
    go_ret
    exact ⟨0, rfl, by omega, HT.out.drewN _, grown_drewN _ _ _, rfl⟩
  · have t0 : decide (n < 2) = false := by simpa using h2
    by_cases hl : l = 0
    · have t1 : ((l : Int) == 0) = true := by simpa using hl
      clear hl
      go_enter Tryz.func16, Tryz.ntmps16
      go_wp2_with fail
      go_quiet (fail)
      go_wp2
      go_ret
      exact ⟨0, rfl, by omega, HT.out.drewN _, grown_drewN _ _ _, rfl⟩
    · have t1 : ((l : Int) == 0) = false := by simpa using hl
      have e0 : IntKind.i64.wrap (4 * (l : Int)) = 4 * (l : Int) := IntWalk.i64_in _ (by omega)
      by_cases ha : 4 * l ≤ a
      · have t2 : 4 * (l : Int) ≤ (a : Int) := by omega
        have t3 : decide (4 * (l : Int) ≤ (a : Int)) = true := by simpa using t2
        go_enter Tryz.func16, Tryz.ntmps16
        go_wp2_with fail
        go_quiet (fail)
        go_wp2
        go_ret
        exact ⟨0, rfl, by omega, HT.out.drewN _, grown_drewN _ _ _, rfl⟩
      · have t2 : ¬ 4 * (l : Int) ≤ (a : Int) := by omega
        have t3 : decide (4 * (l : Int) ≤ (a : Int)) = false := by simpa using t2
        have hl1 : 1 ≤ l := by omega
        obtain ⟨hA, hz⟩ := E4.out (by omega)
        obtain ⟨q, hq⟩ : ∃ q, a / l = q := ⟨_, rfl⟩
        obtain ⟨r, hr⟩ : ∃ r, a % l = r := ⟨_, rfl⟩
        have hq4 : q < 4 := by rw [← hq]; exact (Nat.div_lt_iff_lt_mul (by omega)).2 (by omega)
        have hrl : r < l := by rw [← hr]; exact Nat.mod_lt _ (by omega)
        obtain ⟨z, hz⟩ := hz r hrl
        obtain rfl := hA
        have m0 : (a : Int).tmod (l : Int) = (r : Int) := by rw [Int.tmod_eq_emod_of_nonneg (by omega), ← hr, Int.natCast_emod]
        have d0 : (a : Int).tdiv (l : Int) = (q : Int) := by rw [Int.tdiv_eq_ediv_of_nonneg (by omega), ← hq, Int.natCast_ediv]
        clear hq hr
        have b0 : (0 : Int) ≤ (r : Int) := by omega
        have b1 : (r : Int) < (l : Int) := by omega
        have w0 : IntKind.i64.wrap (r : Int) = (r : Int) := IntWalk.i64_in _ (by omega)
        have w1 : IntKind.i64.wrap (q : Int) = (q : Int) := IntWalk.i64_in _ (by omega)
        have w2 : (0 : Int) ≤ (q : Int) := by omega
        have z0 : ((l : Int) == 0) = false := t1
        go_enter Tryz.func16, Tryz.ntmps16
        go_wp2_with fail
        go_quiet (fail)
        go_wp2_with fail
        go_quiet (fail)
        go_wp2_with fail
        go_quiet (fail)
        obtain rfl | rfl | rfl | rfl : q = 0 ∨ q = 1 ∨ q = 2 ∨ q = 3 := by omega
        all_goals go_wp2_with fail
        all_goals go_ret
        all_goals exact next_end hne hlt hltg E1.out e2 (by omega) (fun h => ⟨rfl, (E4.out h).2⟩) _ n _ (by omega) hn
theorem grown_trans {a b c : World} {r : Option Nat} (h : a.grownBy b r) (k : b.grownBy c r) : a.grownBy c r := grown_two h (.inl rfl) (Nat.le_refl _) k
theorem grown_of_below {a w : World} (h : Below a.heap.size a w) (r : Option Nat) : a.grownBy w r := ⟨h.os, h.tape, h.output, h.size, fun i hi _ => h.block i hi⟩
theorem only_drew {a w : World} {row : Option Nat} (h : a.grownBy w row) : a.grownBy w.drew row := ⟨h.os, h.tape, h.output, h.size, h.block⟩
theorem only_drewN {a w : World} {row : Option Nat} (h : a.grownBy w row) (n : Nat) : a.grownBy (w.drewN n) row := ⟨h.os, h.tape, h.output, h.size, h.block⟩
theorem only_alloc {a w : World} {row : Option Nat} (h : a.grownBy w row) (o : Obj) : a.grownBy (w.alloc o) row :=
  ⟨h.os, h.tape, h.output, Nat.le_trans h.size (by simp), fun i hi hne => (Below.heap_alloc w o i (Nat.lt_of_lt_of_le hi h.size)).trans (h.block i hi hne)⟩
theorem only_setCell {a w : World} {g : Nat} {p : Addr} (h : a.grownBy w (some g)) (hp : p.block = g ∨ a.heap.size ≤ p.block) (u : Value) : a.grownBy (w.setCell p u) (some g) :=
  ⟨h.os, h.tape, h.output, by simpa [World.setCell] using h.size, fun i hi hne => (Below.heap_setCell w p u i (by
    rintro rfl
    rcases hp with hp | hp
    · exact hne (by rw [hp])
    · omega)).trans (h.block i hi hne)⟩
theorem only_step {a W w1 : World} {row : Option Nat} (hb : Below W.heap.size W w1) (h : a.grownBy W row) : a.grownBy w1 row := grown_trans h (grown_of_below hb row)
theorem only_trans {a W w1 : World} {row : Option Nat} (hb : W.grownBy w1 row) (h : a.grownBy W row) : a.grownBy w1 row := grown_trans h hb
theorem Tp.drew {w : World} {b g : Nat} (h : Tp w b g) : Tp w.drew b g := ⟨h.ne, h.lt, h.ltg, h.ex⟩
theorem Tp.step {W w1 : World} {b g : Nat} (hb : Below W.heap.size W w1) (h : Tp W b g) : Tp w1 b g := h.below hb h.lt h.ltg
theorem Tp.setFar {w : World} {b g : Nat} {p : Addr} (h : Tp w b g) (h1 : p.block ≠ b) (h2 : p.block ≠ g) (u : Value) : Tp (w.setCell p u) b g :=
  h.grown (row := some p.block) ⟨rfl, rfl, rfl, by simp [World.setCell], fun i _ hne => Below.heap_setCell w p u i (fun e => hne (by rw [e]))⟩ (fun e => h1 (by injection e)) (fun e => h2 (by injection e))
theorem heap_two (w : World) (o o' : Obj) : ((w.alloc o).alloc o').heap[w.heap.size + 1]? = some o' := by
  have := heap_alloc_new (w.alloc o) o'
  rwa [show (w.alloc o).heap.size = w.heap.size + 1 by simp] at this
theorem heap_one (w : World) (o o' : Obj) : ((w.alloc o).alloc o').heap[w.heap.size]? = some o := by
  rw [Below.heap_alloc _ _ _ (by simp)]
  exact heap_alloc_new w o
theorem rtext (s : ByteArray) (w : World) : Calls Tryz.prog 94 #[.string s] w fun e w' => e = .returned (.agg #[.int .i64 ((V.mk 2 0 s).cl).k, .int .i64 ((V.mk 2 0 s).cl).n, .string ((V.mk 2 0 s).cl).s]) ∧ Below w.heap.size w w' := by
  go_enter Tryz.func94, Tryz.ntmps94
  go_wp2_with (go_at_call 155; refine (rclean ⟨2, 0, s⟩ _).mono ?_; rintro e w1 ⟨rfl, hb1⟩; obtain ⟨hc1, hf1⟩ := bcell hb1; have hz1 := (hb1).size; try simp at hz1)
  refine bodyPost_ret (by simp [results, Tryz.results94, go_sem, hc1]; rfl) rfl ?_
  exact ⟨rfl, by (exact belQ)⟩
theorem rint (n : Int) (w : World) : Calls Tryz.prog 95 #[.int .i64 n] w fun e w' => e = .returned (.agg #[.int .i64 ((V.mk 1 n ⟨#[]⟩).cl).k, .int .i64 ((V.mk 1 n ⟨#[]⟩).cl).n, .string ((V.mk 1 n ⟨#[]⟩).cl).s]) ∧ Below w.heap.size w w' := by
  go_enter Tryz.func95, Tryz.ntmps95
  go_wp2_with (go_at_call 155; refine (rclean ⟨1, n, ⟨#[]⟩⟩ _).mono ?_; rintro e w1 ⟨rfl, hb1⟩; obtain ⟨hc1, hf1⟩ := bcell hb1; have hz1 := (hb1).size; try simp at hz1)
  refine bodyPost_ret (by simp [results, Tryz.results95, go_sem, hc1]; rfl) rfl ?_
  exact ⟨rfl, by (exact belQ)⟩
theorem RowOf.to {α : Type} {cells : α → List Value} {w w' : World} {A : Option Addr} {n : Nat} {xs : List α} (h : RowOf cells w w.heap.size A n xs) (hb : Below w.heap.size w w') : RowOf cells w' w'.heap.size A n xs := (h.below hb).more hb.size
abbrev RowI := @RowOf Int (fun z => [Value.int .i64 z])
theorem RowI.at1 {w : World} {B n : Nat} {A : Option Addr} {zs : List Int} (h : RowI w B A n zs) {k : Nat} (hk : k < n) :
   ∃ b off z, A = some ⟨b, off, none⟩ ∧ b < B ∧ zs[k]? = some z ∧ w.cell? ⟨b, off + k, none⟩ = some (.int .i64 z) := by
  obtain ⟨b, off, s, h1, h2, h3, h4⟩ := h.at_ 1 (fun _ => rfl) (by omega) hk
  have := h4 0 _ rfl
  rw [Nat.mul_one] at this
  exact ⟨b, off, s, h1, h2, h3, this⟩
mutual
theorem X.size_le (x : X) (hw : x.wf = true) : 2 * x.flat.length + 1 ≤ 3 ^ x.depth := by
  match x with
  | .node t ks =>
    simp only [X.wf, Bool.and_eq_true, decide_eq_true_eq] at hw
    have h := sizes_le ks hw.2.2
    have ha := ar_le t.op
    rw [X.flat_node, List.length_cons, X.depth, Nat.pow_succ]
    have hp : 1 ≤ 3 ^ deepest ks := Nat.one_le_pow _ _ (by omega)
    have h3 : ks.length ≤ 3 := by omega
    generalize 3 ^ deepest ks = p at h hp
    have hm : ks.length = 0 ∨ ks.length = 1 ∨ ks.length = 2 ∨ ks.length = 3 := by omega
    rcases hm with e | e | e | e <;> rw [e] at h <;> omega
theorem sizes_le (xs : List X) (hw : wfs xs = true) : 2 * (flats xs).length + xs.length ≤ xs.length * 3 ^ deepest xs := by
  match xs with
  | [] => simp [flats]
  | x :: xs =>
    simp only [wfs, Bool.and_eq_true] at hw
    have h1 := X.size_le x hw.1
    have h2 := sizes_le xs hw.2
    rw [flats_cons, List.length_append, List.length_cons, deepest]
    have p1 : 3 ^ x.depth ≤ 3 ^ max x.depth (deepest xs) := Nat.pow_le_pow_right (by omega) (by omega)
    have p2 : 3 ^ deepest xs ≤ 3 ^ max x.depth (deepest xs) := Nat.pow_le_pow_right (by omega) (by omega)
    have p3 := Nat.mul_le_mul_left xs.length p2
    rw [show (xs.length + 1) * 3 ^ max x.depth (deepest xs) = xs.length * 3 ^ max x.depth (deepest xs) + 3 ^ max x.depth (deepest xs) from Nat.succ_mul _ _]
    generalize 3 ^ max x.depth (deepest xs) = q at p1 p2 p3
    generalize 3 ^ deepest xs = q2 at h2 p2 p3
    generalize 3 ^ x.depth = q1 at h1 p1
    generalize xs.length * q = m1 at p3
    generalize xs.length * q2 = m2 at h2 p3
    omega
end
theorem X.size4 {x : X} (hw : x.wf = true) (hd : x.depth ≤ 4) : x.flat.length ≤ 40 := by
  have h := X.size_le x hw
  have p : 3 ^ x.depth ≤ 3 ^ 4 := Nat.pow_le_pow_right (by omega) hd
  omega
theorem validE_flat {x : X} (hw : x.wf = true) : validE x.flat = (decide (x.flat.length ≤ 64) && decide (x.depth ≤ 16)) := by
  rw [Bool.eq_iff_iff, validE_iff, Bool.and_eq_true, decide_eq_true_eq, decide_eq_true_eq]
  constructor
  · rintro ⟨h1, y, h2, h3, h4⟩
    refine ⟨h1, ?_⟩
    have e1 := readX_flat x [] (max x.depth y.depth) hw (by omega)
    have e2 := readX_flat y [] (max x.depth y.depth) h3 (by omega)
    rw [h2] at e1
    rw [e1] at e2
    simp at e2
    subst e2
    exact h4
  · rintro ⟨h1, h2⟩
    exact ⟨h1, x, rfl, hw, h2⟩
theorem valid4 {x : X} (hw : x.wf = true) (hd : x.depth ≤ 4) : validE x.flat = true := by
  have := X.size4 hw hd
  rw [validE_flat hw]
  simp
  omega
theorem flats_two (a b : List X) : flats (a ++ b) = flats a ++ flats b := by
  induction a with
  | nil => simp [flats]
  | cons y ys ih => simp only [List.cons_append, flats_cons, ih, List.append_assoc]
theorem flats_takes (ks : List X) (i : Nat) : (flats (ks.take i)).length ≤ (flats ks).length := by
  have := flats_two (ks.take i) (ks.drop i)
  rw [List.take_append_drop] at this
  rw [this, List.length_append]
  omega
end Go.Proofs.YtpnfbehbheddeaaGreatDoor
