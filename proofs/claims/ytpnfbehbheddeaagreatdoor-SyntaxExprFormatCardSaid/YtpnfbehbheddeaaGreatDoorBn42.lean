/- The columns of generated expressions under the names of the law SyntaxExprBack: plain Lean, no program in sight. words, binary, functionName, literal and reference of the reference for the writing of expressions. Words of at most 1000000 bytes, at most 1000000 names. isBare, constant and reference of the writer of expressions. At most 1000000 tokens. constant of the writer of expressions. At most 1000000 tokens. reference of the writer of expressions. At most 1000000 tokens and names. -/
import Derived.Test.YtpnfbehbheddeaaGreatDoorBn41
import Derived.Test.YtpnfbehbheddeaaGreatDoorBn19
namespace Go.Proofs.YtpnfbehbheddeaaGreatDoor
set_option maxRecDepth 100000
set_option maxHeartbeats 8000000
set_option linter.unusedVariables false
set_option linter.unusedSimpArgs false
theorem flat_ok : ∀ (n : Nat) (x : X), x.flat.length ≤ n → x.wf = true → (∀ c ∈ x.cols, True) → (∀ t ∈ x.flat, t.ok = true) ∧ ∀ c ∈ x.cols, ∃ t ∈ x.flat, t.op = 2 ∧ t.c.toNat = c :=
  X.ind (P := fun _ => True) (M := fun x => (∀ t ∈ x.flat, t.ok = true) ∧ ∀ c ∈ x.cols, ∃ t ∈ x.flat, t.op = 2 ∧ t.c.toNat = c) fun t ks ht _ _ h => by
    have hl : ∀ l : List X, (∀ k ∈ l, (∀ t ∈ k.flat, t.ok = true) ∧ ∀ c ∈ k.cols, ∃ t ∈ k.flat, t.op = 2 ∧ t.c.toNat = c) → (∀ t ∈ flats l, t.ok = true) ∧ ∀ c ∈ colss l, ∃ t ∈ flats l, t.op = 2 ∧ t.c.toNat = c := fun l => by
      induction l with
      | nil => intro _; exact ⟨fun t ht => (by cases ht), fun c hc => (by cases hc)⟩
      | cons a l ih =>
        intro h
        obtain ⟨i1, i2⟩ := ih fun k hk => h k (by simp [hk])
        obtain ⟨a1, a2⟩ := h a (by simp)
        rw [flats, colss]
        refine ⟨fun t ht => ?_, fun c hc => ?_⟩
        · rcases List.mem_append.1 ht with ht | ht
          · exact a1 t ht
          · exact i1 t ht
        · rcases List.mem_append.1 hc with hc | hc
          · obtain ⟨t, h1, h2⟩ := a2 c hc
            exact ⟨t, List.mem_append_left _ h1, h2⟩
          · obtain ⟨t, h1, h2⟩ := i2 c hc
            exact ⟨t, List.mem_append_right _ h1, h2⟩
    obtain ⟨i1, i2⟩ := hl ks fun k hk => (h k hk).2.2
    rw [X.flat_node, X.cols]
    refine ⟨fun u hu => ?_, fun c hc => ?_⟩
    · rcases List.mem_cons.1 hu with rfl | hu
      · exact ht
      · exact i1 u hu
    · rcases List.mem_append.1 hc with hc | hc
      · split at hc
        · rename_i h2
          exact ⟨t, by simp, h2, (List.mem_singleton.1 hc).symm⟩
        · cases hc
      · obtain ⟨u, h1, h2⟩ := i2 c hc
        exact ⟨u, List.mem_cons_of_mem _ h1, h2⟩
theorem col_pos {t : T} (h : t.ok = true) (h2 : t.op = 2) : 0 ≤ t.c := (node_col h h2).2
theorem addL_len (a : Int) : ∀ l : List Int, (addL l a).length ≤ l.length + 1
  | [] => by simp [addL]
  | b :: l => by
    have := addL_len a l
    rw [addL]
    split
    · simp only [List.length_cons]; omega
    · split <;> simp
theorem colsA_len (e : List T) : (colsA e).length ≤ e.length := by
  have hg : ∀ (l m : List Int), (l.foldl addL m).length ≤ l.length + m.length := fun l => by
    induction l with
    | nil => intro m; simp
    | cons a l ih =>
      intro m
      have := ih (addL m a)
      have := addL_len a m
      rw [List.foldl_cons, List.length_cons]
      omega
  have h1 := hg (colsL e) []
  have h2 : (colsL e).length ≤ e.length := by
    unfold colsL
    rw [List.length_map]
    exact List.length_filter_le _ _
  unfold colsA
  simp only [List.length_nil] at h1
  omega
open Go.RowKit
theorem HS.rowNew {w w' : World} {l : List HA} {e : TypeId} {size n : Nat} {v : Value} {xs : List Value} (h : HS w l) (hf : Below w.heap.size w w') (ho : w'.ownsRow w.heap.size e size v n xs) : HS w' (rowA e size v n xs :: l) :=
  h.new hf (S' := fun k => v.ownBlock = some k) ⟨own_base ho (Nat.zero_le _), rfl⟩ fun k hk => (ho.lt k hk).1
theorem own_fresh {w : World} {base a n size : Nat} {e : TypeId} {cs : Array Value} {xs : List Value} (hn : n ≤ maxLen) (hs : cs.size = n * size) (ha : w.heap.size = a) (hb : base ≤ a) (hx : cs.toList = xs) : (w.alloc (.cells cs e)).ownsRow base e size (.slice (some ⟨a, 0, none⟩) n n) n xs := by
  subst ha hx
  exact own_base (own_new w cs e size n hn hs) hb
def TrPost (l : List HA) (L : List Tk) (e : Ending) (w' : World) : Prop :=
  ∃ (A : Option Addr) (c : Nat) (ts : List Tk), e = .returned (.slice A ts.length c) ∧ sameTk ts L ∧ HS w' (rowA 100 4 (.slice A ts.length c) ts.length (ts.flatMap Tk.cells) :: l)
theorem sameTk_cat {a b c d : List Tk} (h : sameTk a c) (k : sameTk b d) : sameTk (a ++ b) (c ++ d) := by
  unfold sameTk at *
  rw [List.map_append, List.map_append, h, k]
theorem TrPost.mk {w' : World} {l : List HA} {L ts : List Tk} {A : Option Addr} {n c : Nat} (hn : ts.length = n) (h : sameTk ts L) (H : HS w' (rowA 100 4 (.slice A n c) n (ts.flatMap Tk.cells) :: l)) : TrPost l L (.returned (.slice A n c)) w' := by
  subst hn
  exact ⟨A, c, ts, rfl, h, H⟩
theorem rwords_c {w : World} {l : List HA} (s : Bs) (L : List Tk) (hs : s.length ≤ 1000000) (h : sameTk (scanO s).1 L) (H : HS w l) : Calls Tryz.prog 75 #[.string ⟨s.toArray⟩] w (TrPost l L) := by
  have hS := rscan ⟨s.toArray⟩ w (by show s.toArray.size ≤ _; simp; omega)
  rw [show (⟨s.toArray⟩ : ByteArray).data.toList = s from rfl] at hS
  unfold KPost at hS
  generalize scanO s = r at hS h
  obtain ⟨ts, i, ec⟩ := r
  dsimp only at hS h
  have HH := Lib.hid h
  clear h
  go_enter Tryz.func75, Tryz.ntmps75
  go_wp2_with (go_at_call 126; refine hS.mono ?_; rintro e w1 ⟨A, c, rfl, own1, hb1⟩)
  go_ret
  exact ⟨A, c, ts, rfl, HH.out, H.rowNew hb1 own1⟩
def binW (op : Int) : Bs :=
  if op = 4 then [43] else if op = 5 then [45] else if op = 6 then [42] else if op = 7 then [47] else if op = 8 then [43, 43]
  else if op = 11 then [61] else if op = 12 then [60] else if op = 14 then wAnd else if op = 15 then wOr else []
def fnW (op : Int) : Bs :=
  if op = 9 then [108, 101, 110, 103, 116, 104] else if op = 10 then [112, 114, 101, 102, 105, 120] else if op = 16 then [105, 115, 110, 117, 108, 108] else if op = 17 then [99, 111, 97, 108, 101, 115, 99, 101] else if op = 18 then [105, 102] else []
def BwPost (w : World) (l : Bs) (e : Ending) (w' : World) : Prop := e = .returned (.string ⟨l.toArray⟩) ∧ Below w.heap.size w w'
theorem rbinary_c (op : Int) (w : World) (h1 : 1 ≤ op) (h2 : op ≤ 18) : Calls Tryz.prog 77 #[.int .i64 op] w (BwPost w (binW op)) := by
  obtain rfl | rfl | rfl | rfl | rfl | rfl | rfl | rfl | rfl | rfl | rfl | rfl | rfl | rfl | rfl | rfl | rfl | rfl : op = 1 ∨ op = 2 ∨ op = 3 ∨ op = 4 ∨ op = 5 ∨ op = 6 ∨ op = 7 ∨ op = 8 ∨ op = 9 ∨ op = 10 ∨ op = 11 ∨ op = 12 ∨ op = 13 ∨ op = 14 ∨ op = 15 ∨ op = 16 ∨ op = 17 ∨ op = 18 := by omega
  all_goals go_enter Tryz.func77, Tryz.ntmps77
  all_goals go_wp2_with fail
  all_goals go_ret
  all_goals exact ⟨rfl, by (exact belQ)⟩
theorem rfunction_c (op : Int) (w : World) (h1 : 1 ≤ op) (h2 : op ≤ 18) : Calls Tryz.prog 78 #[.int .i64 op] w (BwPost w (fnW op)) := by
  obtain rfl | rfl | rfl | rfl | rfl | rfl | rfl | rfl | rfl | rfl | rfl | rfl | rfl | rfl | rfl | rfl | rfl | rfl : op = 1 ∨ op = 2 ∨ op = 3 ∨ op = 4 ∨ op = 5 ∨ op = 6 ∨ op = 7 ∨ op = 8 ∨ op = 9 ∨ op = 10 ∨ op = 11 ∨ op = 12 ∨ op = 13 ∨ op = 14 ∨ op = 15 ∨ op = 16 ∨ op = 17 ∨ op = 18 := by omega
  all_goals go_enter Tryz.func78, Tryz.ntmps78
  all_goals go_wp2_with fail
  all_goals go_ret
  all_goals exact ⟨rfl, by (exact belQ)⟩
theorem rliteral_c {w : World} {l : List HA} (v : V) (hv : v.ok = true) (h0 : v.k ≠ 0) (H : HS w l) : Calls Tryz.prog 72 #[.agg #[.int .i64 v.k, .int .i64 v.n, .string v.s]] w (TrPost l (constW v)) := by
  obtain ⟨k, n, ⟨s⟩⟩ := v
  dsimp only at h0 ⊢
  have hn : k ≠ 2 → -4294967296 ≤ n ∧ n ≤ 4294967296 := fun h2 => by
    unfold V.ok at hv
    simp only [Bool.or_eq_true, Bool.and_eq_true, beq_iff_eq, decide_eq_true_eq] at hv
    rcases hv with (⟨⟨h, -⟩, -⟩ | ⟨⟨⟨-, h⟩, h'⟩, -⟩) | ⟨⟨h, -⟩, -⟩
    · exact absurd h h0
    · omega
    · exact absurd h h2
  by_cases hk : k = 2
  · subst hk
    rw [show constW ⟨2, n, ⟨s⟩⟩ = [⟨3, s.toList, 0, 0⟩] from rfl]
    clear hv h0 hn
    go_enter Tryz.func72, Tryz.ntmps72
    go_wp2_with fail
    go_ret
    exact TrPost.mk (ts := [⟨3, s.toList, 0, 0⟩]) rfl rfl (H.rowNew (by (exact belQ)) (own_fresh (by decide) rfl (by simp) (by simp) rfl))
  · have hk1 : (k == 2) = false := by simpa using hk
    obtain ⟨hn1, hn2⟩ := hn hk
    by_cases h3 : n < 0
    · rw [show constW ⟨k, n, ⟨s⟩⟩ = [wdK [45], numK (-n)] by unfold constW; rw [if_neg hk, if_pos h3]]
      have hneg : IntKind.i64.wrap (-n) = -n := IntWalk.i64_in _ (by omega)
      clear hk hv h0 hn
      go_enter Tryz.func72, Tryz.ntmps72
      go_wp2_with fail
      go_ret
      exact TrPost.mk (ts := [wdK [45], numK (-n)]) rfl rfl (H.rowNew (by (exact belQ)) (own_fresh (by decide) rfl (by simp) (by simp) rfl))
    · rw [show constW ⟨k, n, ⟨s⟩⟩ = [numK n] by unfold constW; rw [if_neg hk, if_neg h3]]
      clear hk hv h0 hn
      go_enter Tryz.func72, Tryz.ntmps72
      go_wp2_with fail
      go_ret
      exact TrPost.mk (ts := [numK n]) rfl rfl (H.rowNew (by (exact belQ)) (own_fresh (by decide) rfl (by simp) (by simp) rfl))
theorem nameK (s : Bs) (h : isNameB s = true) : wdK s = ⟨1, s, 0, 0⟩ := by unfold wdK; rw [if_pos h]
theorem rreference_c {w0 w : World} {l l' : List HA} {LA DA : Option Addr} {ln lc rn rc : Nat} {left right : List Bs} (c : Nat) (hc : c < ln + rn) (hl : RowB w0 w0.heap.size LA ln left) (hr : RowB w0 w0.heap.size DA rn right) (hln : ln ≤ 1000000) (hrn : rn ≤ 1000000) (hnm : isNameB (colName left right c) = true)
    (H : HS w l) (ho : Pick l (oldA w0) l') : Calls Tryz.prog 73 #[.int .i64 (c : Int), .slice LA ln lc, .slice DA rn rc] w (TrPost l (refW left right c)) := by
  have hb := H.old ho
  have hL := (hl.below hb).more hb.size
  have hD := (hr.below hb).more hb.size
  have hll := hL.len
  have hrl := hD.len
  have h0 : (0 : Int) ≤ (c : Int) := by omega
  unfold refW
  rw [hll]
  have hNm := nameK _ hnm
  by_cases hlt : c < ln
  · obtain ⟨b, off, s, rfl, hb, hs, hcell⟩ := RowB.at1 hL hlt
    have hN : colName left right c = s := by unfold colName; rw [if_pos (by omega), List.getD_eq_getElem?_getD, hs]; rfl
    have h1 : (c : Int) < (ln : Int) := by omega
    rw [if_neg (by omega)]
    rw [hN] at hNm ⊢
    have hcell : w.cell? ⟨b, off + c, none⟩ = some (.string ⟨s.toArray⟩) := hcell
    by_cases hq : s = wNot
    · subst hq
      rw [if_pos rfl]
      have hcell : w.cell? ⟨b, off + c, none⟩ = some (.string ⟨#[110, 111, 116]⟩) := hcell
      clear hs hL hD hll hrl hl hr hN hNm hnm
      go_enter Tryz.func73, Tryz.ntmps73
      go_wp2_with fail
      go_ret
      exact TrPost.mk (ts := [wdK wLeft, wdK [46], wdK wNot]) rfl rfl (H.rowNew (by (exact belQ)) (own_fresh (by decide) rfl (by simp) (by simp) rfl))
    · rw [if_neg hq, hNm]
      have t1 : (s == [110, 111, 116]) = false := by simpa [wNot] using hq
      clear hs hL hD hll hrl hl hr hN hNm hnm hq
      go_enter Tryz.func73, Tryz.ntmps73
      go_wp2_with fail
      go_ret
      exact TrPost.mk (ts := [⟨1, s, 0, 0⟩]) rfl rfl (H.rowNew (by (exact belQ)) (own_fresh (by decide) rfl (by simp) (by simp) rfl))
  · obtain ⟨b, off, s, rfl, hb, hs, hcell⟩ := RowB.at1 hD (show c - ln < rn by omega)
    have hN : colName left right c = s := by unfold colName; rw [if_neg (by omega), List.getD_eq_getElem?_getD, hll, hs]; rfl
    have h1 : ¬ (c : Int) < (ln : Int) := by omega
    have hw : IntKind.i64.wrap ((c : Int) - (ln : Int)) = ((c - ln : Nat) : Int) := by rw [IntWalk.i64_in _ (by omega)]; omega
    have h2 : (0 : Int) ≤ ((c - ln : Nat) : Int) := by omega
    have h3 : ((c - ln : Nat) : Int) < (rn : Int) := by omega
    rw [if_pos (by omega)]
    rw [hN] at hNm ⊢
    rw [hNm]
    clear hs hL hD hll hrl hl hr hN hNm hnm hlt
    go_enter Tryz.func73, Tryz.ntmps73
    go_wp2_with fail
    go_ret
    exact TrPost.mk (ts := [wdK wRight, wdK [46], ⟨1, s, 0, 0⟩]) rfl rfl (H.rowNew (by (exact belQ)) (own_fresh (by decide) rfl (by simp) (by simp) rfl))
theorem isBare_c {w : World} (eb : Nat) (t : T) (neg : Bool) (h1 : 1 ≤ t.op) (h2 : t.op ≤ 18) : Calls Tryz.prog 173 #[.pointer (some ⟨eb, 0, none⟩), .agg #[.int .i64 t.op, .int .i64 t.v.k, .int .i64 t.v.n, .string t.v.s, .int .i64 t.c], .bool neg] w fun e w' => e = .returned (.bool (bareW t neg)) ∧ Below w.heap.size w w' := by
  obtain ⟨op, ⟨k, n, s⟩, c⟩ := t
  dsimp only at h1 h2 ⊢
  have hb : ∀ o, Below w.heap.size w (w.alloc o) := fun o => (Below.refl _ _).alloc (Nat.le_refl _) o
  have h : op = 1 ∨ op = 2 ∨ op = 3 ∨ op = 4 ∨ op = 5 ∨ op = 6 ∨ op = 7 ∨ op = 8 ∨ op = 9 ∨ op = 10 ∨ op = 11 ∨ op = 12 ∨ op = 13 ∨ op = 14 ∨ op = 15 ∨ op = 16 ∨ op = 17 ∨ op = 18 := by omega
  clear h1 h2
  rcases h with rfl | rfl | rfl | rfl | rfl | rfl | rfl | rfl | rfl | rfl | rfl | rfl | rfl | rfl | rfl | rfl | rfl | rfl
  · by_cases hk : k = 2
    · subst hk
      rw [show bareW ⟨1, ⟨2, n, s⟩, c⟩ neg = true by simp [bareW]]
      go_enter Tryz.func173, Tryz.ntmps173
      go_wp2_with fail
      go_ret
      exact ⟨rfl, hb _⟩
    · have hk1 : (k == 2) = false := by simpa using hk
      by_cases hn : 0 ≤ n
      · cases neg with
        | true =>
          rw [show bareW ⟨1, ⟨k, n, s⟩, c⟩ true = false by simp [bareW, hk]]
          clear hk
          go_enter Tryz.func173, Tryz.ntmps173
          go_wp2_with fail
          go_ret
          exact ⟨rfl, hb _⟩
        | false =>
          rw [show bareW ⟨1, ⟨k, n, s⟩, c⟩ false = true by simp [bareW, hn]]
          clear hk
          go_enter Tryz.func173, Tryz.ntmps173
          go_wp2_with fail
          go_ret
          exact ⟨rfl, hb _⟩
      · have HR := Lib.hid (show bareW ⟨1, ⟨k, n, s⟩, c⟩ neg = false by simp [bareW, hk, hn])
        clear hk
        rw [HR.out]
        go_enter Tryz.func173, Tryz.ntmps173
        go_wp2_with fail
        go_ret
        exact ⟨rfl, hb _⟩
  · rw [show bareW ⟨2, ⟨k, n, s⟩, c⟩ neg = true by simp [bareW, isFun]]
    go_enter Tryz.func173, Tryz.ntmps173
    go_wp2_with fail
    go_ret
    exact ⟨rfl, hb _⟩
  · rw [show bareW ⟨3, ⟨k, n, s⟩, c⟩ neg = false by simp [bareW, isFun]]
    go_enter Tryz.func173, Tryz.ntmps173
    go_wp2_with fail
    go_ret
    exact ⟨rfl, hb _⟩
  · rw [show bareW ⟨4, ⟨k, n, s⟩, c⟩ neg = false by simp [bareW, isFun]]
    go_enter Tryz.func173, Tryz.ntmps173
    go_wp2_with fail
    go_ret
    exact ⟨rfl, hb _⟩
  · rw [show bareW ⟨5, ⟨k, n, s⟩, c⟩ neg = false by simp [bareW, isFun]]
    go_enter Tryz.func173, Tryz.ntmps173
    go_wp2_with fail
    go_ret
    exact ⟨rfl, hb _⟩
  · rw [show bareW ⟨6, ⟨k, n, s⟩, c⟩ neg = false by simp [bareW, isFun]]
    go_enter Tryz.func173, Tryz.ntmps173
    go_wp2_with fail
    go_ret
    exact ⟨rfl, hb _⟩
  · rw [show bareW ⟨7, ⟨k, n, s⟩, c⟩ neg = false by simp [bareW, isFun]]
    go_enter Tryz.func173, Tryz.ntmps173
    go_wp2_with fail
    go_ret
    exact ⟨rfl, hb _⟩
  · rw [show bareW ⟨8, ⟨k, n, s⟩, c⟩ neg = false by simp [bareW, isFun]]
    go_enter Tryz.func173, Tryz.ntmps173
    go_wp2_with fail
    go_ret
    exact ⟨rfl, hb _⟩
  · rw [show bareW ⟨9, ⟨k, n, s⟩, c⟩ neg = true by simp [bareW, isFun]]
    go_enter Tryz.func173, Tryz.ntmps173
    go_wp2_with fail
    go_ret
    exact ⟨rfl, hb _⟩
  · rw [show bareW ⟨10, ⟨k, n, s⟩, c⟩ neg = true by simp [bareW, isFun]]
    go_enter Tryz.func173, Tryz.ntmps173
    go_wp2_with fail
    go_ret
    exact ⟨rfl, hb _⟩
  · rw [show bareW ⟨11, ⟨k, n, s⟩, c⟩ neg = false by simp [bareW, isFun]]
    go_enter Tryz.func173, Tryz.ntmps173
    go_wp2_with fail
    go_ret
    exact ⟨rfl, hb _⟩
  · rw [show bareW ⟨12, ⟨k, n, s⟩, c⟩ neg = false by simp [bareW, isFun]]
    go_enter Tryz.func173, Tryz.ntmps173
    go_wp2_with fail
    go_ret
    exact ⟨rfl, hb _⟩
  · rw [show bareW ⟨13, ⟨k, n, s⟩, c⟩ neg = false by simp [bareW, isFun]]
    go_enter Tryz.func173, Tryz.ntmps173
    go_wp2_with fail
    go_ret
    exact ⟨rfl, hb _⟩
  · rw [show bareW ⟨14, ⟨k, n, s⟩, c⟩ neg = false by simp [bareW, isFun]]
    go_enter Tryz.func173, Tryz.ntmps173
    go_wp2_with fail
    go_ret
    exact ⟨rfl, hb _⟩
  · rw [show bareW ⟨15, ⟨k, n, s⟩, c⟩ neg = false by simp [bareW, isFun]]
    go_enter Tryz.func173, Tryz.ntmps173
    go_wp2_with fail
    go_ret
    exact ⟨rfl, hb _⟩
  · rw [show bareW ⟨16, ⟨k, n, s⟩, c⟩ neg = true by simp [bareW, isFun]]
    go_enter Tryz.func173, Tryz.ntmps173
    go_wp2_with fail
    go_ret
    exact ⟨rfl, hb _⟩
  · rw [show bareW ⟨17, ⟨k, n, s⟩, c⟩ neg = true by simp [bareW, isFun]]
    go_enter Tryz.func173, Tryz.ntmps173
    go_wp2_with fail
    go_ret
    exact ⟨rfl, hb _⟩
  · rw [show bareW ⟨18, ⟨k, n, s⟩, c⟩ neg = true by simp [bareW, isFun]]
    go_enter Tryz.func173, Tryz.ntmps173
    go_wp2_with fail
    go_ret
    exact ⟨rfl, hb _⟩
def WdPost (wb : Nat) (L : List Tk) (l : List HA) (e : Ending) (w' : World) : Prop := e = .returned (.tuple #[]) ∧ HS w' (wA wb L :: l)
section
variable {w : World} {l : List HA} {wb : Nat} {L : List Tk}
theorem write1_s (a : Bs) (ha : a.length ≤ 1000000) (hL : L.length ≤ 1000000) (H : HS w (wA wb L :: l)) : Calls Tryz.prog 110 #[.pointer (some ⟨wb, 0, none⟩), .slice (some ⟨w.heap.size, 0, none⟩) 1 1] (w.alloc (.cells #[.string ⟨a.toArray⟩] 9)) (WdPost wb (L ++ [wdK a]) l) :=
  write_s [a] (by simpa using ha) (by simp) hL (H.alloc _ _)
theorem write2_s (a b : Bs) (ha : a.length ≤ 1000000) (hb : b.length ≤ 1000000) (hL : L.length ≤ 1000000) (H : HS w (wA wb L :: l)) : Calls Tryz.prog 110 #[.pointer (some ⟨wb, 0, none⟩), .slice (some ⟨w.heap.size, 0, none⟩) 2 2] (w.alloc (.cells #[.string ⟨a.toArray⟩, .string ⟨b.toArray⟩] 9)) (WdPost wb (L ++ [wdK a, wdK b]) l) :=
  write_s [a, b] (by simpa using ⟨ha, hb⟩) (by simp) hL (H.alloc _ _)
theorem write3_s (a b c : Bs) (ha : a.length ≤ 1000000) (hb : b.length ≤ 1000000) (hc : c.length ≤ 1000000) (hL : L.length ≤ 1000000) (H : HS w (wA wb L :: l)) : Calls Tryz.prog 110 #[.pointer (some ⟨wb, 0, none⟩), .slice (some ⟨w.heap.size, 0, none⟩) 3 3] (w.alloc (.cells #[.string ⟨a.toArray⟩, .string ⟨b.toArray⟩, .string ⟨c.toArray⟩] 9)) (WdPost wb (L ++ [wdK a, wdK b, wdK c]) l) :=
  write_s [a, b, c] (by simpa using ⟨ha, hb, hc⟩) (by simp) hL (H.alloc _ _)
end
def ewC (wb : Nat) (t1 t2 t3 : Value) : Array Value := #[.pointer (some ⟨wb, 0, none⟩), t1, t2, t3]
def WrPost (eb wb : Nat) (t1 t2 t3 : Value) (L : List Tk) (l : List HA) (v : Value) (e : Ending) (w' : World) : Prop := e = .returned v ∧ HS w' (boxA eb (ewC wb t1 t2 t3) 122 :: wA wb L :: l)
theorem constant_s {w : World} {l : List HA} {eb wb : Nat} {t1 t2 t3 : Value} {L : List Tk} (v : V) (hv : v.ok = true) (h0 : v.k ≠ 0) (hL : L.length ≤ 1000000) (H : HS w (boxA eb (ewC wb t1 t2 t3) 122 :: wA wb L :: l)) :
    Calls Tryz.prog 108 #[.pointer (some ⟨eb, 0, none⟩), .agg #[.int .i64 v.k, .int .i64 v.n, .string v.s]] w (WrPost eb wb t1 t2 t3 (L ++ constW v) l (.tuple #[])) := by
  obtain ⟨k, n, ⟨s⟩⟩ := v
  dsimp only at h0 ⊢
  obtain ⟨z, w1, ez, ew, H1⟩ := H.alloc_ex #[.int .i64 k, .int .i64 n, .string ⟨s⟩] 36
  clear H
  have hn : k ≠ 2 → -4294967296 ≤ n ∧ n ≤ 4294967296 := fun h2 => by
    unfold V.ok at hv
    simp only [Bool.or_eq_true, Bool.and_eq_true, beq_iff_eq, decide_eq_true_eq] at hv
    rcases hv with (⟨⟨h, -⟩, -⟩ | ⟨⟨⟨-, h⟩, h'⟩, -⟩) | ⟨⟨h, -⟩, -⟩
    · exact absurd h h0
    · omega
    · exact absurd h h2
  obtain ⟨dB, dL, hcB⟩ := HS.get (z := eb) H1; obtain ⟨d0, df0⟩ := hcB 0; clear hcB; unfold ewC at d0
  obtain ⟨xB, xL, hcB⟩ := HS.get (z := z) H1; obtain ⟨x0, xf0⟩ := hcB 0; obtain ⟨x1, xf1⟩ := hcB 1; obtain ⟨x2, xf2⟩ := hcB 2; clear hcB
  unfold WrPost
  by_cases hk : k = 2
  · subst hk
    rw [show constW ⟨2, n, ⟨s⟩⟩ = [⟨3, s.toList, 0, 0⟩] from rfl]
    clear hv h0 hn
    obtain ⟨A, c, H2⟩ := H1.wOpen (wb := wb) (L := L) pkQ
    obtain ⟨yB, yL, hcB⟩ := HS.get (z := wb) H2; obtain ⟨y0, yf0⟩ := hcB 0; clear hcB
    clear H1
    go_enter Tryz.func108, Tryz.ntmps108
    go_upto_region 3 with fail
    (try rw [ez]); (try rw [ew])
    clear ez ew
    (refine wp_region_G 18 (fun w' => w'.cell? ⟨eb, 0, none⟩ = some (.pointer (some ⟨wb, 0, none⟩)) ∧ w'.cell? ⟨wb, 0, none⟩ = some (.slice A L.length c) ∧ w'.cell? ⟨z, 2, none⟩ = some (.string ⟨s⟩)) (by kernel_rfl) ?_ (fun hHeld => ?_); (focus (try dsimp only); go_keep))
    (refine GG.k 0 ?_; refine GG.k 1 ?_; refine GG.k 2 ?_; refine GG.k 3 ?_; refine GG.k 4 ?_; refine GG.k 5 ?_; refine GG.k 6 ?_; refine GG.k 7 ?_; refine GG.k 8 ?_; refine GG.k 9 ?_; refine GG.k 10 ?_; refine GG.k 11 ?_; refine GG.k 12 ?_; refine GG.k 13 ?_)
    have H3 := H2.drew.alloc #[.int .i64 3, .string ⟨s⟩, .int .i64 0, .int .i64 0] 100
    have own7 := H3.row (v := .slice A L.length c) pkQ
    (refine GG.o 14 (fun K hK => ?_); go_simp; refine hK.out _ _ ?_ (fun hHeld => ?_); (focus (try dsimp only); go_keep); clear hK K; (try simp only [Act.put, qqa, qqb, qqc]))
    (refine GG.o 15 (fun K hK => ?_); (refine step_app3 (v := .slice A L.length c) (by rfl) _ _ stTk (by rfl) (by rfl) own7 (by rfl) (news := [.int .i64 3, .string ⟨s⟩, .int .i64 0, .int .i64 0]) (by rfl) (litRd (heap_alloc_new _ _)) (fun h => by cases h) (by intro u hu; simp at hu; (repeat' (rcases hu with rfl | hu)); all_goals (first | rfl | (subst hu; rfl))) (by omega) (by first | exact Nat.zero_le _ | omega | (simp; omega)) ?_; intro vA wA ownA gA atA; have H5 := H3.app (v := .slice A L.length c) pkQ ownA gA atA; obtain ⟨hB, hL, hcB⟩ := HS.get (z := wb) H5; obtain ⟨h0, hf0⟩ := hcB 0; clear hcB; obtain ⟨kB, kL, hcB⟩ := HS.get (z := eb) H5; obtain ⟨k0, kf0⟩ := hcB 0; clear hcB; unfold ewC at k0; obtain ⟨mB, mL, hcB⟩ := HS.get (z := z) H5; obtain ⟨m2, mf2⟩ := hcB 2; clear hcB; obtain ⟨AB, cB, rfl, -, -⟩ := own_slice ownA; clear ownA gA atA); refine hK.out _ _ ?_ (fun hHeld => ?_); (focus (try dsimp only); go_keep); clear hK K; (try simp only [Act.put, qqa, qqb, qqc]))
    (refine GG.k 16 ?_; refine GG.k 17 ?_)
    (refine GG.l (fun K hK => ?_); go_simp; refine hK.out _ _ ?_; clear hK K)
    go_wp2_with fail
    go_end0
    refine ⟨rfl, ?_⟩
    exact (HS.wPush (t := ⟨3, s.toList, 0, 0⟩) rfl ((H5.storeTo (z := wb) pkQ 0 (.slice AB (L.length + 1) cB) #[.slice AB (L.length + 1) cB] rfl).sub (l' := boxA wb #[.slice AB (L.length + 1) cB] 92 :: rowA 100 4 (.slice AB (L.length + 1) cB) (L.length + 1) (L.flatMap Tk.cells ++ [.int .i64 3, .string ⟨s⟩, .int .i64 0, .int .i64 0]) :: boxA eb (ewC wb t1 t2 t3) 122 :: l) pkQ)).sub pkQ
  · have hk1 : (k == 2) = false := by simpa using hk
    obtain ⟨hn1, hn2⟩ := hn hk
    by_cases h3 : n < 0
    · rw [show constW ⟨k, n, ⟨s⟩⟩ = [wdK [45], numK (-n)] by unfold constW; rw [if_neg hk, if_pos h3]]
      have hneg : IntKind.i64.wrap (-n) = -n := IntWalk.i64_in _ (by omega)
      have HL := Lib.hid (show (L ++ [wdK [45]]).length ≤ 1001000 by rw [List.length_append, List.length_singleton]; omega)
      clear hk hv h0 hn
      have hW := write1_s [45] (by simp) hL (H1.sub (l' := wA wb L :: boxA eb (ewC wb t1 t2 t3) 122 :: boxA z #[.int .i64 k, .int .i64 n, .string ⟨s⟩] 36 :: l) pkQ)
      unfold WdPost at hW
      clear H1
      go_enter Tryz.func108, Tryz.ntmps108
      go_upto_region 5 with fail
      (try rw [ez]); (try rw [ew])
      clear ez ew
      go_upto_region 6 with (go_at_call 110; (with_reducible refine hW.mono ?_); rintro e w2 ⟨rfl, H2⟩)
      clear d0 df0 x0 x1 x2 xf0 xf1 xf2 dB dL xB xL hW
      obtain ⟨dB, dL, hcB⟩ := HS.get (z := eb) H2; obtain ⟨d0, df0⟩ := hcB 0; clear hcB; unfold ewC at d0
      obtain ⟨xB, xL, hcB⟩ := HS.get (z := z) H2; obtain ⟨x0, xf0⟩ := hcB 0; obtain ⟨x1, xf1⟩ := hcB 1; obtain ⟨x2, xf2⟩ := hcB 2; clear hcB
      have hN := number_w (-n) HL.out H2.drew
      (refine wp_region_G 7 (fun w' => w'.cell? ⟨eb, 0, none⟩ = some (.pointer (some ⟨wb, 0, none⟩)) ∧ w'.cell? ⟨z, 1, none⟩ = some (.int .i64 n)) (by kernel_rfl) ?_ (fun hHeld => ?_); (focus (try dsimp only); go_keep))
      (refine GG.k 0 ?_; refine GG.k 1 ?_; refine GG.k 2 ?_; refine GG.k 3 ?_; refine GG.k 4 ?_; refine GG.k 5 ?_; refine GG.k 6 ?_)
      (refine GG.l (fun K hK => ?_); (go_simp; go_at_call 172; (with_reducible refine hN.mono ?_); rintro e w3 ⟨rfl, H3⟩); refine hK.out _ _ ?_; clear hK K)
      go_wp2_with fail
      go_end0
      refine ⟨rfl, ?_⟩
      rw [show L ++ [wdK [45], numK (-n)] = (L ++ [wdK [45]]) ++ [numK (-n)] by rw [List.append_assoc]; rfl]
      exact H3.sub pkQ
    · rw [show constW ⟨k, n, ⟨s⟩⟩ = [numK n] by unfold constW; rw [if_neg hk, if_neg h3]]
      have hN := number_w n (by omega) ((H1.sub (l' := wA wb L :: boxA eb (ewC wb t1 t2 t3) 122 :: boxA z #[.int .i64 k, .int .i64 n, .string ⟨s⟩] 36 :: l) pkQ).drew)
      clear hk hv h0 hn H1
      go_enter Tryz.func108, Tryz.ntmps108
      go_upto_region 1 with fail
      (try rw [ez]); (try rw [ew])
      clear ez ew
      (refine wp_region_G 6 (fun w' => w'.cell? ⟨eb, 0, none⟩ = some (.pointer (some ⟨wb, 0, none⟩)) ∧ w'.cell? ⟨z, 1, none⟩ = some (.int .i64 n)) (by kernel_rfl) ?_ (fun hHeld => ?_); (focus (try dsimp only); go_keep))
      (refine GG.k 0 ?_; refine GG.k 1 ?_; refine GG.k 2 ?_; refine GG.k 3 ?_; refine GG.k 4 ?_; refine GG.k 5 ?_)
      (refine GG.l (fun K hK => ?_); (go_simp; go_at_call 172; (with_reducible refine hN.mono ?_); rintro e w3 ⟨rfl, H3⟩); refine hK.out _ _ ?_; clear hK K)
      go_wp2_with fail
      go_end0
      exact ⟨rfl, H3.sub pkQ⟩
theorem reference_s {w0 w : World} {l l' : List HA} {eb wb ln lc rn rc : Nat} {t1 : Value} {LA DA : Option Addr} {left right : List Bs} {L : List Tk} (c : Nat) (hc : c < ln + rn) (hl : RowB w0 w0.heap.size LA ln left) (hr : RowB w0 w0.heap.size DA rn right) (hln : ln ≤ 1000000) (hrn : rn ≤ 1000000) (hnm : (colName left right c).length ≤ 1000000) (hL : L.length ≤ 1000000)
    (H : HS w (boxA eb (ewC wb t1 (.slice LA ln lc) (.slice DA rn rc)) 122 :: wA wb L :: l)) (ho : Pick l (oldA w0) l') :
    Calls Tryz.prog 109 #[.pointer (some ⟨eb, 0, none⟩), .int .i64 (c : Int)] w (WrPost eb wb t1 (.slice LA ln lc) (.slice DA rn rc) (L ++ refW left right c) l (.tuple #[])) := by
  have hll := hl.len
  have Hd := H.drew
  have hb := Hd.old (.there (.there ho))
  have hN := columnName_c (lc := lc) (rc := rc) c ((hl.below hb).more hb.size) ((hr.below hb).more hb.size) hln hrn hc
  have Hw := Hd.sub (l' := wA wb L :: boxA eb (ewC wb t1 (.slice LA ln lc) (.slice DA rn rc)) 122 :: l) pkQ
  obtain ⟨dB, dL, hcB⟩ := HS.get (z := eb) H; obtain ⟨d0, df0⟩ := hcB 0; obtain ⟨d2, df2⟩ := hcB 2; obtain ⟨d3, df3⟩ := hcB 3; clear hcB; unfold ewC at d0 d2 d3
  unfold WrPost refW
  rw [hll]
  have h0 : (0 : Int) ≤ (c : Int) := by omega
  generalize colName left right c = nm at hN hnm ⊢
  clear H hl hr hb hll Hd
  by_cases h : ln ≤ c
  · rw [if_pos h]
    have h1 : (ln : Int) ≤ (c : Int) := by omega
    have hW := write3_s wRight [46] nm (by decide) (by decide) hnm hL Hw
    unfold WdPost at hW
    unfold wRight at hW ⊢
    go_enter Tryz.func109, Tryz.ntmps109
    go_upto_region 0 with fail
    (refine wp_region_G 10 (fun w' => w'.cell? ⟨eb, 2, none⟩ = some (.slice LA ln lc) ∧ w'.cell? ⟨eb, 3, none⟩ = some (.slice DA rn rc)) (by kernel_rfl) ?_ (fun hHeld => ?_); (focus (try dsimp only); go_keep))
    (refine GG.k 0 ?_; refine GG.k 1 ?_; refine GG.k 2 ?_; refine GG.k 3 ?_; refine GG.k 4 ?_; refine GG.k 5 ?_; refine GG.k 6 ?_; refine GG.k 7 ?_; refine GG.k 8 ?_)
    (refine GG.o 9 (fun K hK => ?_); (go_simp; go_at_call 33; (with_reducible refine hN.mono ?_); rintro e w2 ⟨rfl, rfl⟩); refine hK.out _ _ ?_ (fun hHeld => ?_); (focus (try dsimp only); go_keep); clear hK K; (try simp only [Act.put, qqa, qqb, qqc]))
    (refine GG.l (fun K hK => ?_); go_simp; refine hK.out _ _ ?_; clear hK K)
    go_wp2_with (go_at_call 110; refine hW.mono ?_; rintro e w3 ⟨rfl, H3⟩)
    go_end0
    exact ⟨rfl, H3.sub pkQ⟩
  · rw [if_neg h]
    have h1 : ¬ (ln : Int) ≤ (c : Int) := by omega
    by_cases hq : nm = wNot
    · rw [if_pos hq]
      have e1 : (nm == [110, 111, 116]) = true := by rw [hq]; rfl
      have hW := write3_s wLeft [46] nm (by decide) (by decide) hnm hL Hw
      unfold WdPost at hW
      rw [show wdK wNot = wdK nm by rw [hq]]
      unfold wLeft at hW ⊢
      clear hq
      go_enter Tryz.func109, Tryz.ntmps109
      go_upto_region 0 with fail
      (refine wp_region_G 10 (fun w' => w'.cell? ⟨eb, 2, none⟩ = some (.slice LA ln lc) ∧ w'.cell? ⟨eb, 3, none⟩ = some (.slice DA rn rc)) (by kernel_rfl) ?_ (fun hHeld => ?_); (focus (try dsimp only); go_keep))
      (refine GG.k 0 ?_; refine GG.k 1 ?_; refine GG.k 2 ?_; refine GG.k 3 ?_; refine GG.k 4 ?_; refine GG.k 5 ?_; refine GG.k 6 ?_; refine GG.k 7 ?_; refine GG.k 8 ?_)
      (refine GG.o 9 (fun K hK => ?_); (go_simp; go_at_call 33; (with_reducible refine hN.mono ?_); rintro e w2 ⟨rfl, rfl⟩); refine hK.out _ _ ?_ (fun hHeld => ?_); (focus (try dsimp only); go_keep); clear hK K; (try simp only [Act.put, qqa, qqb, qqc]))
      (refine GG.l (fun K hK => ?_); go_simp; refine hK.out _ _ ?_; clear hK K)
      go_wp2_with (go_at_call 110; refine hW.mono ?_; rintro e w3 ⟨rfl, H3⟩)
      go_end0
      exact ⟨rfl, H3.sub pkQ⟩
    · rw [if_neg hq]
      have e1 : (nm == [110, 111, 116]) = false := by simpa [wNot] using hq
      have hW := write1_s nm hnm hL Hw
      unfold WdPost at hW
      clear hq
      go_enter Tryz.func109, Tryz.ntmps109
      go_upto_region 0 with fail
      (refine wp_region_G 10 (fun w' => w'.cell? ⟨eb, 2, none⟩ = some (.slice LA ln lc) ∧ w'.cell? ⟨eb, 3, none⟩ = some (.slice DA rn rc)) (by kernel_rfl) ?_ (fun hHeld => ?_); (focus (try dsimp only); go_keep))
      (refine GG.k 0 ?_; refine GG.k 1 ?_; refine GG.k 2 ?_; refine GG.k 3 ?_; refine GG.k 4 ?_; refine GG.k 5 ?_; refine GG.k 6 ?_; refine GG.k 7 ?_; refine GG.k 8 ?_)
      (refine GG.o 9 (fun K hK => ?_); (go_simp; go_at_call 33; (with_reducible refine hN.mono ?_); rintro e w2 ⟨rfl, rfl⟩); refine hK.out _ _ ?_ (fun hHeld => ?_); (focus (try dsimp only); go_keep); clear hK K; (try simp only [Act.put, qqa, qqb, qqc]))
      (refine GG.l (fun K hK => ?_); go_simp; refine hK.out _ _ ?_; clear hK K)
      go_wp2_with (go_at_call 110; refine hW.mono ?_; rintro e w3 ⟨rfl, H3⟩)
      go_end0
      exact ⟨rfl, H3.sub pkQ⟩
end Go.Proofs.YtpnfbehbheddeaaGreatDoor
