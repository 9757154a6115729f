/- Contract of an expression's resolve: the look-up of its references. At most 1000000 terms and references, names of at most 1000000 columns. The trees that the parser of expressions builds: their references are in range, and they are no larger than what has been read. Plain Lean, no condition. Which tokens have words, and what joining gives, in plain Lean. No program in sight, no condition. -/
import Derived.Test.YtpnfbehbheddeaaGreatDoorBn17
import Derived.Test.YtpnfbehbheddeaaGreatDoorBn04
import Derived.Test.YtpnfbehbheddeaaGreatDoorBn06
import Derived.Lib.Join
import Derived.Lib.ItoaLen
namespace Go.Proofs.YtpnfbehbheddeaaGreatDoor
set_option maxRecDepth 100000
set_option maxHeartbeats 8000000
set_option linter.unusedVariables false
set_option linter.unusedSimpArgs false
open Go.RowKit
def idxI (ws : List Bs) (x : Bs) : Int := match findP ws x with
  | some k => (k : Int)
  | none => -1
theorem idxFrom_map (x : Bs) : ∀ (ws : List Bs) (i : Nat), Lib.idxFromS (ws.map baL) (baL x) i = (match findP ws x with | some k => ((i + k : Nat) : Int) | none => -1) := by
  intro ws
  induction ws with
  | nil => intro i; rfl
  | cons y ws ih =>
    intro i
    unfold findP at *
    rw [List.map_cons, Lib.idxFromS, List.findIdx?_cons]
    by_cases h : y = x
    · subst h
      simp
    · have h1 : baL y ≠ baL x := fun e => h (baL_inj e)
      have h2 : (y == x) = false := by simpa using h
      rw [if_neg h1, ih, h2]
      cases ws.findIdx? (· == x) with
      | none => rfl
      | some k =>
        show ((i + 1 + k : Nat) : Int) = ((i + (k + 1) : Nat) : Int)
        omega
theorem idx_map (ws : List Bs) (x : Bs) : Lib.idxOfS (ws.map baL) (baL x) = idxI ws x := by
  unfold Lib.idxOfS idxI
  rw [idxFrom_map]
  cases findP ws x <;> simp
theorem sIndex_c {w : World} {B n c : Nat} {A : Option Addr} {ws : List Bs} (x : Bs) (hr : RowB w B A n ws) (hn : n ≤ maxLen) : Calls Tryz.prog 44 #[.slice A n c, .string ⟨x.toArray⟩] w fun e w' => e = .returned (.int .i64 (idxI ws x)) ∧ w' = w := by
  have hl := hr.len
  unfold maxLen at hn
  rcases Nat.eq_zero_or_pos n with h0 | h0
  · subst h0
    have : ws = [] := List.eq_nil_of_length_eq_zero hl
    subst this
    exact Tryz.slices_Index_string_empty A c _ w
  · obtain ⟨b, off, s, rfl, _⟩ := hr.at1 h0
    have h := Tryz.slices_Index_string b off n c (ws.map baL) (baL x) w (by rw [List.length_map, hl]; exact Nat.le_refl _) (by omega) hr.cells
    rw [List.take_of_length_le (by rw [List.length_map, hl]; exact Nat.le_refl _), idx_map] at h
    exact h
def zerosI (k : Nat) : Array Value := madeCells #[.int .i64 0] k
theorem zerosI_size (k : Nat) : (zerosI k).size = k := by
  have : (zerosI k).toList.length = k := by unfold zerosI; rw [toList_madeCells_one]; simp
  simpa using this
theorem makeInts (k : Nat) (hk : k ≤ 1000000) (w : World) : (Instr.makeSlice 22 (.int .i64 (k : Int)) (.int .i64 (k : Int))).run Tryz.prog w = .ok (.slice (some ⟨w.heap.size, 0, none⟩) k k) (w.alloc (.cells (zerosI k) 3)) := by
  obtain ⟨i, h0, h1, h2, h3⟩ := info_parts (P := Tryz.prog) (e := 3) (z := .int .i64 0) (size := 1) (bytes := 8) (by kernel_rfl)
  have := run_make (P := Tryz.prog) w 22 3 i (.int .i64 0) Tryz.underlying22 h0 h1 .i64 .i64 (k : Int) (k : Int) (by omega) (by omega) (by rw [h3]; omega) (by omega)
  rw [h2, Int.toNat_natCast, Nat.mul_one] at this
  exact this
abbrev RowR := @RowOf (Tk × Bool) refC
def RsPost (w : World) (r : Except Int (List T)) (e : Ending) (w' : World) : Prop := match r with
  | .error p => e = .returned (.tuple #[.slice none 0 0, .int .i64 p, .int .i64 3]) ∧ Below w.heap.size w w'
  | .ok l => ∃ v, e = .returned (.tuple #[v, .int .i64 0, .int .i64 0]) ∧ w'.ownsRow w.heap.size 40 5 v l.length (l.flatMap T.cells) ∧ Below w.heap.size w w'
theorem flat_int (l : List Int) : (l.flatMap fun z => [Value.int .i64 z]) = l.map (Value.int .i64) := by
  induction l with
  | nil => rfl
  | cons a l ih => rw [List.flatMap_cons, ih]; rfl
theorem RowR.at5 {w : World} {B n : Nat} {A : Option Addr} {rs : List (Tk × Bool)} (h : RowR w B A n rs) {k : Nat} (hk : k < n) :
   ∃ b off t r, A = some ⟨b, off, none⟩ ∧ b < B ∧ rs[k]? = some (t, r) ∧ w.cell? ⟨b, off + k * 5, none⟩ = some (.int .i64 t.kind) ∧ w.cell? ⟨b, off + k * 5 + 1, none⟩ = some (.string ⟨t.text.toArray⟩) ∧ w.cell? ⟨b, off + k * 5 + 2, none⟩ = some (.int .i64 t.int) ∧ w.cell? ⟨b, off + k * 5 + 3, none⟩ = some (.int .i64 t.pos) ∧ w.cell? ⟨b, off + k * 5 + 4, none⟩ = some (.bool r) := by
  obtain ⟨b, off, x, h1, h2, h3, h4⟩ := h.at_ 5 (fun _ => rfl) (by omega) hk
  obtain ⟨t, r⟩ := x
  exact ⟨b, off, t, r, h1, h2, h3, h4 0 _ rfl, h4 1 _ rfl, h4 2 _ rfl, h4 3 _ rfl, h4 4 _ rfl⟩
theorem colsP_snoc {left right : List Bs} {t : Tk} {r : Bool} {k : Nat} (hf : findP (if r = true then right else left) t.text = some k) : ∀ {l : List (Tk × Bool)} {m : List Int}, colsP left right l = .ok m → colsP left right (l ++ [(t, r)]) = .ok (m ++ [(((if r = true then left.length else 0) + k : Nat) : Int)]) := by
  intro l
  induction l with
  | nil =>
    intro m h
    injection h with h
    subst h
    simp only [List.nil_append, colsP, hf]
  | cons a l ih =>
    intro m h
    obtain ⟨t', r'⟩ := a
    rw [List.cons_append]
    unfold colsP at h ⊢
    cases h1 : findP (if r' = true then right else left) t'.text with
    | none => rw [h1] at h; cases h
    | some q =>
      rw [h1] at h
      simp only at h ⊢
      cases h2 : colsP left right l with
      | error e => rw [h2] at h; cases h
      | ok m' =>
        rw [h2] at h
        injection h with h
        subst h
        rw [ih h2]
        rfl
theorem colsP_err {left right : List Bs} {t : Tk} {r : Bool} : ∀ {refs : List (Tk × Bool)} {i : Nat} {m : List Int}, colsP left right (refs.take i) = .ok m → refs[i]? = some (t, r) → findP (if r = true then right else left) t.text = none → colsP left right refs = .error t.pos := by
  intro refs
  induction refs with
  | nil => intro i m _ h; simp at h
  | cons a l ih =>
    intro i m hm hi hf
    obtain ⟨t', r'⟩ := a
    cases i with
    | zero =>
      simp at hi
      obtain ⟨rfl, rfl⟩ := hi
      unfold colsP
      rw [hf]
    | succ i =>
      rw [List.take_succ_cons] at hm
      unfold colsP at hm ⊢
      cases h1 : findP (if r' = true then right else left) t'.text with
      | none => rw [h1] at hm; cases hm
      | some q =>
        rw [h1] at hm
        simp only at hm ⊢
        cases h2 : colsP left right (l.take i) with
        | error e => rw [h2] at hm; cases hm
        | ok m' => rw [ih h2 (by simpa using hi) hf]
def RvRel (w : World) (left right : List Bs) (refs : List (Tk × Bool)) (n : Nat) (bx : Array Value) (vi : Value) (wr : World) : Prop :=
  ∃ (i : Nat) (cs : Array Value) (l : List Int), vi = .int .i64 (i : Int) ∧ i ≤ n ∧ wr.heap[w.heap.size + 1]? = some (.cells cs 3 (0, 0)) ∧ cs.size = n ∧ Hid (colsP left right (refs.take i) = .ok l) ∧ l.length = i ∧ (∀ (j : Nat) (z : Int), l[j]? = some z → cs[j]? = some (.int .i64 z)) ∧ wr.heap[w.heap.size]? = some (.cells bx 72 (0, 0)) ∧ Below w.heap.size w wr
theorem findP_lt {l : List Bs} {x : Bs} {k : Nat} (h : findP l x = some k) : k < l.length := by
  unfold findP at h
  exact (List.findIdx?_eq_some_iff_findIdx_eq.1 h).1
theorem resolve_c {w : World} {B : Nat → Prop} {r : X} {a : Nat} {RA LA DA : Option Addr} {n cr ln lc rn rc : Nat} {refs : List (Tk × Bool)} {left right : List Bs} (hT : TreeAt B w r a) (hR : RowR w w.heap.size RA n refs) (hL : RowB w w.heap.size LA ln left) (hD : RowB w w.heap.size DA rn right) (hn : n ≤ 1000000) (hln : ln ≤ 1000000) (hrn : rn ≤ 1000000) (hfl : r.flat.length ≤ 1000000) (hin : ∀ t ∈ r.flat, t.op = 2 → 0 ≤ t.c ∧ t.c < n) :
    Calls Tryz.prog 21 #[.agg #[.pointer (some ⟨a, 0, none⟩), .slice RA n cr], .slice LA ln lc, .slice DA rn rc] w (RsPost w (Xr.resolve ⟨some r, refs⟩ left right)) := by
  have hmk := makeInts n hn
  go_enter Tryz.func21, Tryz.ntmps21
  go_wp2_with fail
  go_loopw [25] (fun v25 wr => RvRel w left right refs n #[.pointer (some ⟨a, 0, none⟩), .slice RA n cr] v25 wr) (fun v25 _ => n - iOf v25)
  case atStart =>
    refine ⟨0, zerosI n, [], rfl, Nat.zero_le _, ?_, zerosI_size n, rfl, rfl, fun j z h => by simp at h, ?_, by (exact belQ)⟩
    · have := heap_two' w (.cells #[.pointer (some ⟨a, 0, none⟩), .slice RA n cr] 72) (.cells (zerosI n) 3)
      simpa using this
    · exact (Below.heap_alloc _ _ _ (by simp)).trans (heap_alloc_new w _)
  case round =>
    obtain ⟨i, cs, l, rfl, hi, hg, hcs, HC, hl, hz, hbx, hbel⟩ := hrel
    have hzz := hbel.size
    have hgl := heap_lt hg
    obtain ⟨gc, gf⟩ := blk_cells hg
    by_cases hlt : i < n
    · obtain ⟨b, off, t, rb, rfl, hb, hri, q0, q1, q2, q3, q4⟩ := RowR.at5 ((hR.below hbel).more hzz) hlt
      have h1 : (i : Int) < (n : Int) := by omega
      have h0 : (0 : Int) ≤ (i : Int) := by omega
      have hiw : IntKind.i64.wrap ((i : Int) + 1) = (i : Int) + 1 := IntWalk.i64_in _ (by omega)
      obtain ⟨u0, hu0⟩ : ∃ u0, cs[i]? = some u0 := ⟨_, Array.getElem?_eq_getElem (by omega)⟩
      have gi := (gc i).trans hu0
      have gif := gf i
      clear gc gf
      cases rb
      · have hX := fun w1 (hb1 : Below wr.heap.size wr w1) => sIndex_c (c := lc) t.text (((hL.below hbel).more hzz).below hb1) (by unfold maxLen; omega)
        unfold idxI at hX
        cases hf : findP left t.text with
        | none =>
          rw [hf] at hX
          have HE := Lib.hid (show Xr.resolve ⟨some r, refs⟩ left right = .error t.pos by unfold Xr.resolve; simp only; rw [colsP_err (left := left) (right := right) (r := false) HC.out hri hf])
          clear hf hri HC hg hbx
          go_wp2_with (go_at_call 44; refine (hX _ (by (exact belQ))).mono ?_; rintro e w5 ⟨rfl, rfl⟩)
          go_quiet (fail)
          go_wp2_with fail
          refine bodyPost_ret (by simp [results, Tryz.results21, go_sem]; rfl) rfl ?_
          unfold RsPost
          rw [HE.out]
          exact ⟨rfl, by (exact belQ)⟩
        | some k =>
          rw [hf] at hX
          have hkl := findP_lt hf
          have hLl := hL.len
          have HS := Lib.hid (show colsP left right (refs.take (i + 1)) = .ok (l ++ [((k : Nat) : Int)]) by
            rw [List.take_add_one, hri, Option.toList_some, colsP_snoc (r := false) hf HC.out]
            simp)
          have hk0 : ¬ (k : Int) < 0 := by omega
          have hk1 : (0 : Int) ≤ (k : Int) := by omega
          have hw : IntKind.i64.wrap (k : Int) = (k : Int) := IntWalk.i64_in _ (by omega)
          clear hf hri HC
          go_wp2_with (go_at_call 44; refine (hX _ (by (exact belQ))).mono ?_; rintro e w5 ⟨rfl, rfl⟩)
          go_roundw
          case rel =>
            trace_state
            refine ⟨i + 1, cs.set! i (.int .i64 (k : Int)), _, by go_num, by omega, (Below.heap_alloc _ _ _ (by simp [World.setCell]; omega)).trans (heap_set hg _), by simp [hcs], HS.out, by simp [hl], fun j z hj => ?_, ?_, by (exact belQ)⟩
            · rw [List.getElem?_append] at hj
              split at hj
              · rename_i hji
                rw [Array.set!_eq_setIfInBounds, Array.getElem?_setIfInBounds_ne (by omega)]
                exact hz j z hj
              · rename_i hji
                have hj0 : j - l.length = 0 := by
                  rcases Nat.eq_zero_or_pos (j - l.length) with h | h
                  · exact h
                  · rw [List.getElem?_eq_none (by simp; omega)] at hj; cases hj
                rw [hj0] at hj
                simp at hj
                obtain rfl : j = i := by omega
                rw [Array.set!_eq_setIfInBounds, Array.getElem?_setIfInBounds_self, if_pos (by omega), ← hj]
            · exact (Below.heap_alloc _ _ _ (by simp [World.setCell]; omega)).trans ((Below.heap_setCell _ ⟨w.heap.size + 1, i, none⟩ _ _ (by simp)).trans hbx)
          case measure => simp [iOf]; omega
      · have hX := fun w1 (hb1 : Below wr.heap.size wr w1) => sIndex_c (c := rc) t.text (((hD.below hbel).more hzz).below hb1) (by unfold maxLen; omega)
        unfold idxI at hX
        cases hf : findP right t.text with
        | none =>
          rw [hf] at hX
          have HE := Lib.hid (show Xr.resolve ⟨some r, refs⟩ left right = .error t.pos by unfold Xr.resolve; simp only; rw [colsP_err (left := left) (right := right) (r := true) HC.out hri hf])
          clear hf hri HC hg hbx
          go_wp2_with (go_at_call 44; refine (hX _ (by (exact belQ))).mono ?_; rintro e w5 ⟨rfl, rfl⟩)
          go_quiet (fail)
          go_wp2_with fail
          refine bodyPost_ret (by simp [results, Tryz.results21, go_sem]; rfl) rfl ?_
          unfold RsPost
          rw [HE.out]
          exact ⟨rfl, by (exact belQ)⟩
        | some k =>
          rw [hf] at hX
          have hkl := findP_lt hf
          have hLl := hD.len
          have HS := Lib.hid (show colsP left right (refs.take (i + 1)) = .ok (l ++ [((ln + k : Nat) : Int)]) by
            rw [List.take_add_one, hri, Option.toList_some, colsP_snoc (r := true) hf HC.out]
            simp [hL.len])
          have hk0 : ¬ (k : Int) < 0 := by omega
          have hk1 : (0 : Int) ≤ (k : Int) := by omega
          have hw : IntKind.i64.wrap ((ln : Int) + (k : Int)) = (ln : Int) + (k : Int) := IntWalk.i64_in _ (by omega)
          clear hf hri HC
          go_wp2_with (go_at_call 44; refine (hX _ (by (exact belQ))).mono ?_; rintro e w5 ⟨rfl, rfl⟩)
          go_roundw
          case rel =>
            refine ⟨i + 1, cs.set! i (.int .i64 ((ln : Int) + (k : Int))), _, by go_num, by omega, (Below.heap_alloc _ _ _ (by simp [World.setCell]; omega)).trans (heap_set hg _), by simp [hcs], HS.out, by simp [hl], fun j z hj => ?_, ?_, by (exact belQ)⟩
            · rw [List.getElem?_append] at hj
              split at hj
              · rename_i hji
                rw [Array.set!_eq_setIfInBounds, Array.getElem?_setIfInBounds_ne (by omega)]
                exact hz j z hj
              · rename_i hji
                have hj0 : j - l.length = 0 := by
                  rcases Nat.eq_zero_or_pos (j - l.length) with h | h
                  · exact h
                  · rw [List.getElem?_eq_none (by simp; omega)] at hj; cases hj
                rw [hj0] at hj
                simp at hj
                obtain rfl : j = i := by omega
                rw [Array.set!_eq_setIfInBounds, Array.getElem?_setIfInBounds_self, if_pos (by omega), ← hj]
            · exact (Below.heap_alloc _ _ _ (by simp [World.setCell]; omega)).trans ((Below.heap_setCell _ ⟨w.heap.size + 1, i, none⟩ _ _ (by simp)).trans hbx)
          case measure => simp [iOf]; omega
    · obtain rfl : i = n := by omega
      have hn' := hR.len
      have hC := HC.out
      rw [List.take_of_length_le (by omega)] at hC
      have HE := Lib.hid (show Xr.resolve ⟨some r, refs⟩ left right = .ok (r.flat.map (putT l)) by unfold Xr.resolve; simp only; rw [hC])
      have hrow : RowI wr wr.heap.size (some ⟨w.heap.size + 1, 0, none⟩) i l := ⟨hl, fun _ => ⟨w.heap.size + 1, 0, rfl, hgl, fun j u hu => by
        rw [flat_int, List.getElem?_map] at hu
        obtain ⟨z, hz1, rfl⟩ := Option.map_eq_some_iff.1 hu
        rw [Nat.zero_add]
        exact (gc j).trans (hz j z hz1)⟩⟩
      have hA := appendTerms_c wr.heap.size (some ⟨w.heap.size + 1, 0, none⟩) i i l r.depth r a B wr (.slice none 0 0) [] (Nat.le_refl _) (hT.below hbel) (World.ownsRow_nil _ _ _ _) hrow (Nat.le_refl _) hin (by simpa using hfl)
      unfold TmPost ptrV at hA
      obtain ⟨bc, -⟩ := blk_cells hbx
      have b0 := bc 0
      have b1 := bc 1
      have h1 : ¬ (i : Int) < (i : Int) := by omega
      clear bc gc gf hC HC hg hbx hin hT
      go_wp2_with (go_at_call 45; refine hA.mono ?_; rintro e w6 ⟨v6, rfl, own6, F6, O6⟩)
      refine bodyPost_ret (by simp [results, Tryz.results21, go_sem]; rfl) rfl ?_
      unfold RsPost
      rw [HE.out]
      refine ⟨v6, rfl, own_base (by simpa using own6) hzz, ?_⟩
      have hb6 : Below wr.heap.size wr w6 := ⟨F6.os, F6.tape, F6.output, F6.size, fun k hk => F6.block k hk (by simp [Value.ownBlock])⟩
      exact below_step1 hb6 hbel
def InR (n : Nat) (l : List T) : Prop := ∀ t ∈ l, t.op = 2 → 0 ≤ t.c ∧ t.c < n
theorem InR.more {n m : Nat} {l : List T} (h : InR n l) (hm : n ≤ m) : InR m l := fun t ht h2 => by have := h t ht h2; omega
theorem InR.app {n : Nat} {l m : List T} (h : InR n l) (h2 : InR n m) : InR n (l ++ m) := fun t ht => by
  rcases List.mem_append.1 ht with ht | ht
  · exact h t ht
  · exact h2 t ht
theorem InR.nil (n : Nat) : InR n [] := fun t ht => by simp at ht
structure Red (e : Src) (s : Ps) (l : List T) (s' : Ps) : Prop where
  inr : InR s'.refs.length l
  len : l.length + s.refs.length + 2 * s.pos ≤ s'.refs.length + 2 * s'.pos
  refs : s.refs.length ≤ s'.refs.length
  le : s.pos ≤ s'.pos
  ok : s'.pos ≤ e.toks.length
section
variable {e : Src} {s s1 s2 : Ps} {l m : List T}
theorem Red.step (h : Red e s l s1) (hs : StepP e 0 s1 s2) (hr : s2.refs = s1.refs) : Red e s l s2 := ⟨by rw [hr]; exact h.inr, by rw [hr]; have := h.len; have := hs.le; omega, by rw [hr]; exact h.refs, Nat.le_trans h.le hs.le, hs.ok⟩
theorem Red.before {s0 : Ps} (hs : StepP e 0 s0 s) (hr : s.refs = s0.refs) (h : Red e s l s1) : Red e s0 l s1 := ⟨h.inr, by have := h.len; have := hs.le; rw [hr] at *; omega, by rw [← hr]; exact h.refs, Nat.le_trans hs.le h.le, h.ok⟩
theorem Red.app (h : Red e s l s1) (h2 : Red e s1 m s2) : Red e s (l ++ m) s2 := ⟨(h.inr.more h2.refs).app h2.inr, by rw [List.length_append]; have := h.len; have := h2.len; omega, Nat.le_trans h.refs h2.refs, Nat.le_trans h.le h2.le, h2.ok⟩
theorem Red.nil (h : s.pos ≤ e.toks.length) : Red e s [] s := ⟨InR.nil _, by simp, Nat.le_refl _, Nat.le_refl _, h⟩
theorem Red.node {s0 : Ps} {p : List T} (hp : p.length ≤ 2) (hp2 : ∀ t ∈ p, t.op ≠ 2) (hlt : s0.pos + 1 ≤ s.pos) (hr : s.refs = s0.refs) (h : Red e s l s1) : Red e s0 (p ++ l) s1 := by
  refine ⟨fun t ht e2 => ?_, ?_, by rw [← hr]; exact h.refs, by have := h.le; omega, h.ok⟩
  · rcases List.mem_append.1 ht with ht | ht
    · exact absurd e2 (hp2 t ht)
    · exact h.inr t ht e2
  · have := h.len
    rw [hr] at this
    rw [List.length_append]
    omega
theorem Red.perm {l' : List T} (h : Red e s l s1) (hl : ∀ t, t ∈ l' → t ∈ l) (hn : l'.length = l.length) : Red e s l' s1 := ⟨fun t ht => h.inr t (hl t ht), by rw [hn]; exact h.len, h.refs, h.le, h.ok⟩
end
theorem expect_lt {e : Src} {s : Ps} {ws : List Bs} (h : s.pos < e.toks.length) : s.pos + 1 ≤ (expectP e s ws).2.pos := by
  unfold expectP
  split
  · exact Nat.le_refl _
  · simp only [Ps.fail]; omega
theorem pTake_lt' {e : Src} {s : Ps} (k : Int) (h : s.pos < e.toks.length) : s.pos + 1 ≤ (takeP e s k).2.pos := by
  unfold takeP
  split
  · exact Nat.le_refl _
  · simp only [Ps.fail]; omega
theorem opP_ne (w : Bs) : opP w ≠ 2 := by unfold opP; (repeat' split) <;> decide
theorem funP_ne (w : Bs) : funP w ≠ 2 := by unfold funP; (repeat' split) <;> decide
theorem red_ref {e : Src} {s : Ps} (right : Bool) (h : s.pos ≤ e.toks.length) : Red e s (refP e right s).1.flat (refP e right s).2 := by
  have h1 := step_take (e := e) (s := s) 1 h
  have h2 := take_refs (e := e) (s := s) 1
  unfold refP
  rw [X.flat_node]
  refine ⟨fun t ht _ => ?_, ?_, ?_, h1.le, h1.ok⟩
  · simp [flats] at ht
    subst ht
    simp
    omega
  · simp [flats]
    have := h1.le
    omega
  · simp
theorem red_cst {e : Src} {s s1 : Ps} {v : V} (hlt : s.pos + 1 ≤ s1.pos) (hr : s1.refs = s.refs) (hok : s1.pos ≤ e.toks.length) : Red e s (cstX v).flat s1 := by
  have := Red.node (e := e) (s := s1) (s0 := s) (p := [⟨1, v, 0⟩]) (by simp) (by simp) hlt hr (Red.nil hok)
  simpa [cstX, X.flat_node, flats] using this
theorem red_op {e : Src} {s0 s s1 : Ps} {op : Int} {ks : List X} (hop : op ≠ 2) (hlt : s0.pos + 1 ≤ s.pos) (hr : s.refs = s0.refs) (h : Red e s (flats ks) s1) : Red e s0 (opX op ks).flat s1 := by
  have := Red.node (p := [⟨op, V.null, 0⟩]) (by simp) (by simpa using hop) hlt hr h
  simpa [opX, X.flat_node] using this
theorem parse_reds (e : Src) : ∀ f, (∀ lv s, lv ≤ 6 → s.pos ≤ e.toks.length → 10 * (e.toks.length - s.pos) + lv + 1 ≤ f → Red e s (parseP e f lv s).1.flat (parseP e f lv s).2) ∧ (∀ lv s0 x s, lv ≤ 6 → Red e s0 x.flat s → 10 * (e.toks.length - s.pos) + 1 ≤ f → Red e s0 (chainP e f lv x s).1.flat (chainP e f lv x s).2) ∧ (∀ k s0 l s, Red e s0 (flats l) s → 10 * (e.toks.length - s.pos) + 8 + k ≤ f → Red e s0 (flats (argsP e f k l s).1) (argsP e f k l s).2) := by
  intro f
  induction f with
  | zero => exact ⟨fun lv s _ h hf => by omega, fun lv s0 x s _ h hf => by omega, fun k s0 l s h hf => by omega⟩
  | succ f ih =>
    obtain ⟨ihp, ihc, iha⟩ := ih
    have chainlike : ∀ lv s, lv + 1 ≤ 6 → s.pos ≤ e.toks.length → 10 * (e.toks.length - s.pos) + lv + 1 ≤ f → Red e s (chainP e f (lv + 1) (parseP e f lv s).1 (parseP e f lv s).2).1.flat (chainP e f (lv + 1) (parseP e f lv s).1 (parseP e f lv s).2).2 := fun lv s hl h hf => by
      have h1 := ihp lv s (by omega) h hf
      have h2 := h1.le
      exact ihc _ _ _ _ hl h1 (by omega)
    refine ⟨fun lv s hlv h hf => ?_, fun lv s0 x s hl h hf => ?_, fun k s0 l s h hf => ?_⟩
    · match lv with
      | 0 =>
        unfold parseP
        by_cases h1 : isKindP e s 0 2 = true
        · simp only [if_pos h1]; exact red_cst (pTake_lt' 2 (isKindP_lt h1)) (take_refs 2) (step_take 2 h).ok
        simp only [if_neg h1]
        by_cases h2 : isKindP e s 0 3 = true
        · simp only [if_pos h2]; exact red_cst (pTake_lt' 3 (isKindP_lt h2)) (take_refs 3) (step_take 3 h).ok
        simp only [if_neg h2]
        by_cases h3 : isP e s 0 [[40]] = true
        · simp only [if_pos h3]
          have hlt := isP_lt h3
          have q0 := step_next hlt
          have q1 := ihp 6 { s with pos := s.pos + 1 } (by omega) q0.ok (by simp only; omega)
          exact (q1.before q0 rfl).step (step_expect [[41]] q1.ok) (expect_refs _)
        simp only [if_neg h3]
        by_cases h4 : isP e s 0 wFuncs = true ∧ isP e s 1 [[40]] = true
        · simp only [if_pos h4]
          have hlt := isP_lt h4.1
          have q0 := step_take (e := e) (s := s) 1 h
          have l0 := pTake_lt' (e := e) (s := s) 1 hlt
          have q1 := step_expect (e := e) [[40]] q0.ok
          have l1 := q1.le
          have q2 := ihp 6 _ (by omega) q1.ok (by omega)
          have l2 := q2.le
          have hk := fun_ar (takeP e s 1).1.text
          have q3 := iha ((arity (funP (takeP e s 1).1.text)).toNat - 1) _ [(parseP e f 6 (expectP e (takeP e s 1).2 [[40]]).2).1] _ (by simpa [flats] using q2) (by omega)
          exact red_op (funP_ne _) (Nat.le_trans l0 l1) ((expect_refs _).trans (take_refs 1)) (q3.step (step_expect [[41]] q3.ok) (expect_refs _))
        simp only [if_neg h4]
        by_cases h5 : isP e s 0 [wLeft, wRight] = true ∧ isP e s 1 [[46]] = true
        · simp only [if_pos h5]
          have q0 := step_expect (e := e) (s := s) [wLeft, wRight] h
          have q1 := step_expect (e := e) [[46]] q0.ok
          exact (red_ref _ q1.ok).before (q0.trans q1 (Nat.le_refl _)) ((expect_refs _).trans (expect_refs _))
        simp only [if_neg h5]
        exact red_ref false h
      | 1 =>
        unfold parseP
        by_cases h1 : isP e s 0 [[45]] = true
        · simp only [if_pos h1]
          have hlt := isP_lt h1
          have q0 := step_next hlt
          by_cases h2 : isKindP e { s with pos := s.pos + 1 } 0 2 = true
          · simp only [if_pos h2]
            have := pTake_lt' (e := e) 2 (isKindP_lt h2)
            exact red_cst (by simp only at this; omega) (take_refs 2) (step_take 2 q0.ok).ok
          · simp only [if_neg h2]
            have q1 := ihp 1 { s with pos := s.pos + 1 } (by omega) q0.ok (by simp only; omega)
            exact red_op (s := { s with pos := s.pos + 1 }) (by decide) (Nat.le_refl _) rfl (by simpa [flats] using q1)
        simp only [if_neg h1]
        by_cases h2 : isP e s 0 [wNot] = true
        · simp only [if_pos h2]
          have hlt := isP_lt h2
          have q0 := step_next hlt
          have q1 := ihp 1 { s with pos := s.pos + 1 } (by omega) q0.ok (by simp only; omega)
          exact red_op (s := { s with pos := s.pos + 1 }) (by decide) (Nat.le_refl _) rfl (by simpa [flats] using q1)
        simp only [if_neg h2]
        exact ihp 0 s (by omega) h (by omega)
      | 4 =>
        unfold parseP
        have q0 := ihp 3 s (by omega) h (by omega)
        have l0 := q0.le
        by_cases h1 : isP e (parseP e f 3 s).2 0 [[61], [60]] = true
        · simp only [if_pos h1]
          have hlt := isP_lt h1
          have q1 := step_expect (e := e) [[61], [60]] q0.ok
          have l1 := expect_lt (e := e) (s := (parseP e f 3 s).2) (ws := [[61], [60]]) (by omega)
          have q2 := ihp 3 _ (by omega) q1.ok (by omega)
          have q3 := q0.app (Red.node (p := [⟨opP (expectP e (parseP e f 3 s).2 [[61], [60]]).1, V.null, 0⟩]) (by simp) (by simpa using opP_ne _) l1 (expect_refs _) q2)
          refine q3.perm (fun t ht => ?_) ?_
          · simp [opX, X.flat_node, flats] at ht ⊢
            rcases ht with h | h | h <;> simp [h]
          · simp [opX, X.flat_node, flats]
            omega
        simp only [if_neg h1]
        by_cases h2 : isP e (parseP e f 3 s).2 0 [[60, 61]] = true
        · simp only [if_pos h2]
          have hlt := isP_lt h2
          have q1 := step_next (e := e) (s := (parseP e f 3 s).2) (by omega)
          have q2 := ihp 3 { (parseP e f 3 s).2 with pos := (parseP e f 3 s).2.pos + 1 } (by omega) q1.ok (by simp only; omega)
          have q3 := q0.app (Red.node (s := { (parseP e f 3 s).2 with pos := (parseP e f 3 s).2.pos + 1 }) (p := [⟨13, V.null, 0⟩, ⟨12, V.null, 0⟩]) (by simp) (by simp) (Nat.le_refl _) rfl q2)
          refine q3.perm (fun t ht => ?_) ?_
          · simp [opX, X.flat_node, flats] at ht ⊢
            rcases ht with h | h | h | h <;> simp [h]
          · simp [opX, X.flat_node, flats]
            omega
        simp only [if_neg h2]
        exact q0
      | 2 => unfold parseP; exact chainlike 1 s (by omega) h (by omega)
      | 3 => unfold parseP; exact chainlike 2 s (by omega) h (by omega)
      | lv + 5 =>
        unfold parseP
        exact chainlike (lv + 4) s (by omega) h (by omega)
    · unfold chainP
      by_cases h1 : isP e s 0 (opsP lv) = true
      · simp only [if_pos h1]
        have hlt := isP_lt h1
        have q0 := step_expect (e := e) (s := s) (opsP lv) h.ok
        have l0 := expect_lt (e := e) (s := s) (ws := opsP lv) (by omega)
        have q1 := ihp (lv - 1) _ (by omega) q0.ok (by omega)
        have l1 := q1.le
        refine ihc lv s0 _ _ hl ?_ (by omega)
        have q3 := h.app (Red.node (p := [⟨opP (expectP e s (opsP lv)).1, V.null, 0⟩]) (by simp) (by simpa using opP_ne _) l0 (expect_refs _) q1)
        refine q3.perm (fun t ht => ?_) ?_
        · simp [opX, X.flat_node, flats] at ht ⊢
          rcases ht with h | h | h <;> simp [h]
        · simp [opX, X.flat_node, flats]
          omega
      · simp only [if_neg h1]
        exact h
    · match k with
      | 0 => unfold argsP; exact h
      | k + 1 =>
        unfold argsP
        have hok := h.ok
        have q0 := step_expect (e := e) (s := s) [[44]] h.ok
        have hfl : 10 * (e.toks.length - (expectP e s [[44]]).2.pos) + 8 + k ≤ f := by
          unfold expectP
          split
          · rename_i hi; have := isP_lt hi; simp only; omega
          · simp only [Ps.fail]; omega
        have q1 := ihp 6 _ (by omega) q0.ok (by omega)
        have l1 := q1.le
        refine iha k s0 _ _ ?_ (by omega)
        rw [flats_snoc]
        exact (h.step q0 (expect_refs _)).app q1
theorem whole_red (e : Src) (s : Ps) (hs : s.pos ≤ e.toks.length) (r : X) (h : (wholeP e s).1.root = some r) : InR (wholeP e s).1.refs.length r.flat ∧ r.flat.length ≤ (wholeP e s).1.refs.length + 2 * e.toks.length ∧ (wholeP e s).1.refs.length ≤ 3 * e.toks.length + 1 := by
  unfold wholeP at h ⊢
  simp only at h ⊢
  injection h with h
  subst h
  have h1 := (parse_reds e e.fuel).1 6 { s with refs := [] } (by omega) hs (by unfold Src.fuel; simp only; omega)
  have h2 := parse_step e e.fuel 6 { s with refs := [] } hs
  have h3 := h1.len
  have h4 := h1.ok
  have h5 := h2.meas
  simp only [Src.meas, List.length_nil] at h3 h5
  exact ⟨h1.inr, by omega, by omega⟩
def tokOk (t : Tk) : Bool := if t.kind = 1 then isNameB t.text else if t.kind = 2 then decide (0 ≤ t.int) && decide (t.int ≤ 4294967296) else if t.kind = 3 then decide (t.text.length ≤ 32) else if t.kind = 4 then isSignB t.text else false
theorem scanL_len : ∀ (f : Nat) (s : List UInt8) (pos : Nat) (acc : List Tk), acc.length ≤ 4096 → (scanL f s pos acc).1.length ≤ 4096 := by
  intro f
  induction f with
  | zero => intro s pos acc _; simp [scanL]
  | succ f ih =>
    intro s pos acc ha
    rw [scanL]
    simp only
    split
    · exact ha
    · split
      · simp
      · split
        · simp
        · rename_i h
          exact ih _ _ _ (by simp; omega)
theorem scanO_len (s : List UInt8) : (scanO s).1.length ≤ 4096 := by
  unfold scanO
  split
  · simp
  · exact scanL_len _ _ _ _ (by simp)
end Go.Proofs.YtpnfbehbheddeaaGreatDoor
