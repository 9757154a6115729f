/- Contracts of the program's opName, formatAt and Format: names of at most a hundred bytes; the table of powers of ten is as it is laid. -/
import Derived.Test.YtojcabnjodfdmaaDoorEk
import Derived.Test.YtojcabnjodfdmaaDoorEo
import Derived.Laws.MakeOwn
import Derived.Laws.Concat
namespace Go.Proofs.YtojcabnjodfdmaaDoor
open Go.RowKit

theorem fmtV_len (v : V) : (fmtV v).length ≤ 100 := by
  obtain ⟨b1, b2, b3⟩ := cl_bounds v
  unfold fmtV
  split
  · have := Lib.itoa_length_le v.cl.n (by omega) (by omega)
    omega
  · split
    · have := flat_len v.cl.s.data.toList
      rw [← Lib.size_eq] at this
      unfold quoteL
      simp only [List.length_append, List.length_cons, List.length_nil]
      omega
    · simp
theorem joinL_cons_len (a : List UInt8) (l : List (List UInt8)) : (joinL (a :: l)).length ≤ a.length + 2 + (joinL l).length := by
  cases l with
  | nil => simp [joinL]
  | cons b l => simp [joinL]; omega
theorem wordL_len (op : Int) : (wordL op).length ≤ 8 := by
  unfold wordL
  generalize (op - 3).toNat = k
  rcases Nat.lt_or_ge k 16 with h | h
  · have : ∀ k, k < 16 → (wordT.getD k []).length ≤ 8 := by decide
    exact this k h
  · rw [List.getD_eq_getElem?_getD, List.getElem?_eq_none (by simpa [wordT] using h)]
    simp
theorem names_len {names : List ByteArray} (hN : ∀ s ∈ names, s.size ≤ 100) (k : Nat) : (names.getD k ⟨#[]⟩).data.toList.length ≤ 100 := by
  rw [List.getD_eq_getElem?_getD]
  cases h : names[k]? with
  | none => simp
  | some s =>
    have := hN s (List.mem_of_getElem? h)
    rw [Lib.size_eq] at this
    simpa using this
mutual
theorem fmt_len {names : List ByteArray} (hN : ∀ s ∈ names, s.size ≤ 100) (x : X) : (x.fmt names).length + 2 ≤ 200 * x.flat.length := by
  match x with
  | .node t ks =>
    have h := fmts_sum hN ks
    rw [X.flat_node, List.length_cons, X.fmt, termF]
    split
    · have := fmtV_len t.v; omega
    · split
      · split
        · have := names_len hN t.c.toNat; omega
        · simp; omega
      · have := wordL_len t.op
        simp only [List.length_append, List.length_cons, List.length_nil]
        omega
theorem fmts_sum {names : List ByteArray} (hN : ∀ s ∈ names, s.size ≤ 100) (xs : List X) : (joinL (fmts names xs)).length ≤ 200 * (flats xs).length := by
  match xs with
  | [] => simp [fmts, joinL]
  | x :: xs =>
    have h1 := fmt_len hN x
    have h2 := fmts_sum hN xs
    have h3 := joinL_cons_len (x.fmt names) (fmts names xs)
    rw [fmts, flats_cons, List.length_append]
    omega
end
theorem join_joinL : ∀ l : List (List UInt8), Lib.join l [44, 32] = joinL l := by
  intro l
  induction l with
  | nil => rfl
  | cons a l ih =>
    cases l with
    | nil => rw [Lib.join_one]; rfl
    | cons b l =>
      rw [joinL, ← ih, Lib.join_cons, Lib.join_cons, Lib.joinTail]
      simp [Lib.joinTail]
abbrev RowS := @RowOf ByteArray (fun s => [Value.string s])
theorem RowS.at1 {w : World} {B n : Nat} {A : Option Addr} {ss : List ByteArray} (h : RowS w B A n ss) {k : Nat} (hk : k < n) :
   ∃ b off s, A = some ⟨b, off, none⟩ ∧ b < B ∧ ss[k]? = some s ∧ w.cell? ⟨b, off + k, none⟩ = some (.string s) := by
  obtain ⟨b, off, s, h1, h2, h3, h4⟩ := h.at_ 1 (fun _ => rfl) (by omega) hk
  have := h4 0 _ rfl
  rw [Nat.mul_one] at this
  exact ⟨b, off, s, h1, h2, h3, this⟩
def FmPost (w : World) (l : List UInt8) (k : Nat) (e : Ending) (w' : World) : Prop := e = .returned (.tuple #[.string ⟨l.toArray⟩, .int .i64 (k : Int)]) ∧ Below w.heap.size w w'
/-- The j-th of the first i operands' texts. -/
def fmAt (names : List ByteArray) (ks : List X) (i j : Nat) : ByteArray := ⟨((fmts names (ks.take i)).getD j []).toArray⟩
theorem fmAt_zero (names : List ByteArray) (ks : List X) (j : Nat) : fmAt names ks 0 j = ⟨#[]⟩ := by simp [fmAt, fmts]
theorem getD_snocL (l : List (List UInt8)) (v : List UInt8) (j : Nat) : (l ++ [v]).getD j [] = if j = l.length then v else l.getD j [] := by
  simp only [List.getD_eq_getElem?_getD]
  split
  · rename_i h; subst h; simp
  · rename_i h
    rcases Nat.lt_or_ge j l.length with h1 | h1
    · rw [List.getElem?_append_left h1]
    · rw [List.getElem?_append_right h1, List.getElem?_eq_none (l := l) h1, List.getElem?_eq_none (by simp; omega)]
theorem fmAt_succ {names : List ByteArray} {ks : List X} {i : Nat} {k : X} (h : ks[i]? = some k) (j : Nat) : fmAt names ks (i + 1) j = if j = i then ⟨(k.fmt names).toArray⟩ else fmAt names ks i j := by
  have hl : i < ks.length := (List.getElem?_eq_some_iff.1 h).1
  unfold fmAt
  rw [List.take_add_one, h]
  simp only [Option.toList_some]
  rw [fmts_snoc, getD_snocL, fmts_len, List.length_take, Nat.min_eq_left (by omega)]
  split <;> rfl
theorem fmAt_all (names : List ByteArray) (ks : List X) (j : Nat) : fmAt names ks ks.length j = ⟨((fmts names ks).getD j []).toArray⟩ := by simp [fmAt]
def emptyStrs (k : Nat) : Array Value := madeCells #[.string ⟨#[]⟩] k
theorem emptyStrs_at {k j : Nat} (h : j < k) : (emptyStrs k)[j]? = some (.string ⟨#[]⟩) := by
  have h1 : (emptyStrs k).toList[j]? = some (.string ⟨#[]⟩) := by
    unfold emptyStrs
    rw [toList_madeCells_one]
    simp [h]
  simpa using h1
theorem makeStrs (k : Nat) (hk : k ≤ 1000) (w : World) : (Instr.makeSlice 44 (.int .i64 (k : Int)) (.int .i64 (k : Int))).run Tryd.prog w = .ok (.slice (some ⟨w.heap.size, 0, none⟩) k k) (w.alloc (.cells (emptyStrs k) 9)) := by
  obtain ⟨i, h0, h1, h2, h3⟩ := info_parts (P := Tryd.prog) (e := 9) (z := .string ⟨#[]⟩) (size := 1) (bytes := 16) (by kernel_rfl)
  have := run_make (P := Tryd.prog) w 44 9 i (.string ⟨#[]⟩) Tryd.underlying44 h0 h1 .i64 .i64 (k : Int) (k : Int) (by omega) (by omega) (by rw [h3]; omega) (by omega)
  rw [h2, Int.toNat_natCast, Nat.mul_one] at this
  exact this
structure Fm3 (w wr : World) (t : T) (names : List ByteArray) (ks : List X) (i : Nat) : Prop where
  bel : Below w.heap.size w wr
  sz : w.heap.size + 2 ≤ wr.heap.size
  fr : ∀ j, wr.frozen? ⟨w.heap.size + 1, j, none⟩ = false
  t0 : wr.cell? ⟨w.heap.size, 0, none⟩ = some (.int .i64 t.op)
  o : ∀ j, j < ks.length → wr.cell? ⟨w.heap.size + 1, j, none⟩ = some (.string (fmAt names ks i j))
def FmRel (w : World) (t : T) (names : List ByteArray) (ks : List X) (pos : Nat) (v9 v54 : Value) (wr : World) : Prop := ∃ i p : Nat, i ≤ ks.length ∧ v54 = .int .i64 i ∧ v9 = .int .i64 (p : Int) ∧ p = pos + 1 + (flats (ks.take i)).length ∧ Fm3 w wr t names ks i
set_option maxRecDepth 100000 in
set_option maxHeartbeats 8000000 in
theorem formatAt_c (A R : Option Addr) (n c m d : Nat) (es : List T) (names : List ByteArray) (hn : n ≤ 1000) (hm : m ≤ maxLen) (hN : ∀ s ∈ names, s.size ≤ 100) : ∀ (f : Nat) (x : X) (r : List T) (pos : Nat) (w : World), x.depth ≤ f → x.wf = true → es.drop pos = x.flat ++ r → G w → RowT w w.heap.size A n es → RowS w w.heap.size R m names → Calls Tryd.prog 50 #[.slice A n c, .int .i64 (pos : Int), .slice R m d] w (FmPost w (x.fmt names) (pos + x.flat.length)) := by
  intro f
  induction f with
  | zero => intro x r pos w hd; have := x.depth_pos; omega
  | succ f ih =>
    intro x r pos w hd hw hx hG hr hv
    obtain ⟨t, ks⟩ := x
    have hlen := congrArg List.length hx
    rw [List.length_drop, X.flat_node, List.length_append, List.length_cons, hr.len] at hlen
    have hlt : pos < n := by omega
    obtain ⟨b, off, t', rfl, hb, ht, c0, c1, c2, c3, c4⟩ := RowT.at5 hr hlt
    have htt : t' = t := by
      have h2 := drop_term ht
      rw [hx, X.flat_node, List.cons_append] at h2
      injection h2 with h2 _
      exact h2.symm
    subst htt
    have hp0 : (0 : Int) ≤ (pos : Int) := by omega
    have hp1 : (pos : Int) < (n : Int) := by omega
    have hpw : IntKind.i64.wrap ((pos : Int) + 1) = (pos : Int) + 1 := IntWalk.i64_in _ (by omega)
    have hw2 := hw
    simp only [X.wf, Bool.and_eq_true, decide_eq_true_eq] at hw2
    obtain ⟨hok, hkl, hkw⟩ := hw2
    have hak : 0 ≤ arity t'.op := by
      rw [T.ok_fok, Bool.and_eq_true, decide_eq_true_eq] at hok
      exact hok.1
    have hop := arity_known hak
    have HN := Lib.hid (show arity t'.op = (ks.length : Int) by rw [hkl]; unfold ar; omega)
    have har := arity_range t'.op
    have hk3 : ks.length ≤ 3 := by have := HN.out; omega
    simp only [X.depth] at hd
    have HX := Lib.hid hx
    have HK := Lib.hid hok
    have HW := Lib.hid hkw
    have HFL := Lib.hid hlen
    have HP := Lib.hid (show pos + (X.node t' ks).flat.length = pos + 1 + (flats ks).length by rw [X.flat_node, List.length_cons]; omega)
    have HE := Lib.hid (show (X.node t' ks).fmt names = termF names t' (fmts names ks) by rw [X.fmt])
    generalize pos + (X.node t' ks).flat.length = pe at HP
    generalize (X.node t' ks).fmt names = ve at HE
    have hks0 : (t'.op = 1 ∨ t'.op = 2) → ks = [] := fun h => by
      have h0 : arity t'.op = 0 := by unfold arity; rw [if_pos h]
      have := HN.out
      exact List.eq_nil_of_length_eq_zero (by omega)
    have HKS := Lib.hid hks0
    clear ht hx hok hkw hw hkl hlen hks0
    by_cases h1 : t'.op = 1
    · have t1 : (t'.op == 1) = true := by simpa using h1
      have HR := Lib.hid (show ve = fmtV t'.v by rw [HE.out, termF, if_pos h1])
      have HQ := Lib.hid (show pe = pos + 1 by rw [HP.out, HKS.out (.inl h1)]; rfl)
      clear h1
      go_enter Tryd.func50, Tryd.ntmps50
      go_wp2_with (go_at_call 71; refine (vformat t'.v _ (by exact hG.below (by (repeat (first | (with_reducible exact Below.refl _ _) | (with_reducible assumption) | (with_reducible refine Below.drew ?_) | (with_reducible refine below_drewN ?_ _) | ((with_reducible refine Below.setCell ?_ ?_ _); rotate_left; (focus (first | (simp; done) | (simp; omega) | omega))) | ((with_reducible refine Below.alloc ?_ ?_ _); rotate_left; (focus (first | (simp; done) | (simp; omega) | omega))) | ((with_reducible apply below_step1); (focus (with_reducible assumption)))))))).mono ?_; rintro e w1 ⟨rfl, hb1⟩; obtain ⟨hc1, hf1⟩ := bcell hb1; have hz1 := (hb1).size; (try simp at hz1); have hl10 : w.heap.size < w1.heap.size := (by omega))
      refine bodyPost_ret (by simp [results, Tryd.results50, go_sem, *]; rfl) rfl ?_
      unfold FmPost
      rw [HR.out, HQ.out]
      exact ⟨by go_num, by (repeat (first | (with_reducible exact Below.refl _ _) | (with_reducible assumption) | (with_reducible refine Below.drew ?_) | (with_reducible refine below_drewN ?_ _) | ((with_reducible refine Below.setCell ?_ ?_ _); rotate_left; (focus (first | (simp; done) | (simp; omega) | omega))) | ((with_reducible refine Below.alloc ?_ ?_ _); rotate_left; (focus (first | (simp; done) | (simp; omega) | omega))) | ((with_reducible apply below_step1); (focus (with_reducible assumption)))))⟩
    have t1 : (t'.op == 1) = false := by simpa using h1
    by_cases h2 : t'.op = 2
    · have t2 : (t'.op == 2) = true := by simpa using h2
      have hc0 := (term_col HK.out h2).1
      have HQ := Lib.hid (show pe = pos + 1 by rw [HP.out, HKS.out (.inr h2)]; rfl)
      by_cases hc : t'.c < (m : Int)
      · obtain ⟨i, hi⟩ := Int.eq_ofNat_of_zero_le hc0
        obtain ⟨b2, off2, s, rfl, hb2, hs, hcell⟩ := RowS.at1 hv (show i < m by omega)
        have hl2 := hv.len
        have HR := Lib.hid (show ve = s.data.toList by
          rw [HE.out, termF, if_neg h1, if_pos h2, if_pos (by omega), hi]
          simp [hs])
        rw [hi] at c4 hc hc0
        clear h1 h2 hs hl2
        go_enter Tryd.func50, Tryd.ntmps50
        go_wp2_with fail
        refine bodyPost_ret (by simp [results, Tryd.results50, go_sem, *]; rfl) rfl ?_
        unfold FmPost
        rw [HR.out, HQ.out]
        exact ⟨by go_num, by (repeat (first | (with_reducible exact Below.refl _ _) | (with_reducible assumption) | (with_reducible refine Below.drew ?_) | (with_reducible refine below_drewN ?_ _) | ((with_reducible refine Below.setCell ?_ ?_ _); rotate_left; (focus (first | (simp; done) | (simp; omega) | omega))) | ((with_reducible refine Below.alloc ?_ ?_ _); rotate_left; (focus (first | (simp; done) | (simp; omega) | omega))) | ((with_reducible apply below_step1); (focus (with_reducible assumption)))))⟩
      · have hl2 := hv.len
        have HR := Lib.hid (show ve = [63] by rw [HE.out, termF, if_neg h1, if_pos h2, if_neg (by omega)])
        clear h1 h2 hl2
        go_enter Tryd.func50, Tryd.ntmps50
        go_wp2_with fail
        refine bodyPost_ret (by simp [results, Tryd.results50, go_sem, *]; rfl) rfl ?_
        unfold FmPost
        rw [HR.out, HQ.out]
        exact ⟨by go_num, by (repeat (first | (with_reducible exact Below.refl _ _) | (with_reducible assumption) | (with_reducible refine Below.drew ?_) | (with_reducible refine below_drewN ?_ _) | ((with_reducible refine Below.setCell ?_ ?_ _); rotate_left; (focus (first | (simp; done) | (simp; omega) | omega))) | ((with_reducible refine Below.alloc ?_ ?_ _); rotate_left; (focus (first | (simp; done) | (simp; omega) | omega))) | ((with_reducible apply below_step1); (focus (with_reducible assumption)))))⟩
    have t2 : (t'.op == 2) = false := by simpa using h2
    have HR := Lib.hid (show ve = wordL t'.op ++ [40] ++ joinL (fmts names ks) ++ [41] by rw [HE.out, termF, if_neg h1, if_neg h2])
    have hop3 : 3 ≤ t'.op := by omega
    have hop18 := hop.2
    clear h1 h2 hop HE
    have hmake := makeStrs ks.length (by omega)
    go_enter Tryd.func50, Tryd.ntmps50
    go_wp2_with (go_at_call 16; refine (xarity t'.op _).mono ?_; rintro e w1 ⟨rfl, rfl⟩; rw [HN.out])
    go_loopw [9, 54] (fun v9 v54 wr => FmRel w t' names ks pos v9 v54 wr) (fun _ v54 _ => ks.length - (intOf v54).toNat)
    case atStart =>
      refine ⟨0, pos + 1, Nat.zero_le _, rfl, by go_num, by simp [flats], ?_⟩
      constructor
      · (repeat (first | (with_reducible exact Below.refl _ _) | (with_reducible assumption) | (with_reducible refine Below.drew ?_) | (with_reducible refine below_drewN ?_ _) | ((with_reducible refine Below.setCell ?_ ?_ _); rotate_left; (focus (first | (simp; done) | (simp; omega) | omega))) | ((with_reducible refine Below.alloc ?_ ?_ _); rotate_left; (focus (first | (simp; done) | (simp; omega) | omega))) | ((with_reducible apply below_step1); (focus (with_reducible assumption)))))
      · simp
      · intro j; simp [go_sem]
      · simp [go_sem]
      · intro j hj
        rw [fmAt_zero]
        simp [go_sem, emptyStrs_at hj]
    case round =>
      obtain ⟨i, p, hi, rfl, rfl, hp, h3⟩ := hrel
      obtain ⟨hbel, hsz, fr, t0, o⟩ := h3
      have hzz := hbel.size
      have hs0 : w.heap.size < wr.heap.size := by omega
      have hs1 : w.heap.size + 1 < wr.heap.size := by omega
      by_cases hlt2 : i < ks.length
      · have hia : (i : Int) < (ks.length : Int) := by omega
        have hki : ks[i]? = some ks[i] := List.getElem?_eq_getElem hlt2
        generalize ks[i] = k at hki
        obtain ⟨k1, k2, k3⟩ := kid_in hki
        have hka := kid_at HX.out hki
        rw [← hp] at hka
        have ihe := ih k _ p wr (by omega) (k2 HW.out) hka (hG.below hbel) ((hr.below hbel).more hzz) ((hv.below hbel).more hzz)
        have HS := Lib.hid (fmAt_succ (names := names) hki)
        have hbnd : p + k.flat.length ≤ 1000 := by
          have h2 := congrArg List.length hka
          rw [List.length_drop, List.length_append, hr.len] at h2
          have h4 := k.flat_pos
          omega
        have HP1 := Lib.hid (show p + k.flat.length = pos + 1 + (flats (ks.take (i + 1))).length by omega)
        generalize p + k.flat.length = p1 at ihe hbnd HP1
        generalize k.fmt names = kv at ihe HS
        have oi := o i hlt2
        have fri := fr i
        have HO := Lib.hid o
        have HFR := Lib.hid fr
        clear hka hki k1 k2 k3 hp hr hv ih o fr
        go_wp2_with (go_at_call 50; refine ihe.mono ?_; rintro e2 w2 ⟨rfl, hb2⟩; obtain ⟨hc2, hf2⟩ := bcell hb2; have hz2 := (hb2).size; (try simp at hz2); have hl20 : w.heap.size < w2.heap.size := (by omega); have hl21 : w.heap.size + 1 < w2.heap.size := (by omega))
        refine ⟨⟨i + 1, p1, by omega, by go_num, rfl, HP1.out, ?_⟩, by simp [intOf]; omega⟩
        constructor
        · (repeat (first | (with_reducible exact Below.refl _ _) | (with_reducible assumption) | (with_reducible refine Below.drew ?_) | (with_reducible refine below_drewN ?_ _) | ((with_reducible refine Below.setCell ?_ ?_ _); rotate_left; (focus (first | (simp; done) | (simp; omega) | omega))) | ((with_reducible refine Below.alloc ?_ ?_ _); rotate_left; (focus (first | (simp; done) | (simp; omega) | omega))) | ((with_reducible apply below_step1); (focus (with_reducible assumption)))))
        · simp; omega
        · intro j; simp [go_sem, hf2, hs1, HFR.out j]
        · simp [go_sem, hc2, hs0, t0]
        · intro j hj
          rw [HS.out j]
          split
          · rename_i h; subst h
            exact World.cell?_setCell_same _ _ _ ((hc2 _ _ hs1).trans oi)
          · rename_i h
            exact (World.cell?_setCell_other _ _ _ _ (fun e => h (congrArg Addr.off e).symm)).trans ((hc2 _ _ hs1).trans (HO.out j hj))
      · have hia : ¬ (i : Int) < (ks.length : Int) := by omega
        obtain rfl : i = ks.length := by omega
        rw [List.take_length] at hp
        have HPE := Lib.hid (show p = pe by rw [hp, HP.out])
        have hjl := fmts_sum hN ks
        have hwl := wordL_len t'.op
        have hfl : (flats ks).length ≤ 1000 := by have := HFL.out; omega
        have hJ : ∀ w1, Below wr.heap.size wr w1 → Calls Tryd.prog 73 #[.slice (some ⟨w.heap.size + 1, 0, none⟩) ks.length ks.length, .string ⟨#[44, 32]⟩] w1 fun e w' => e = .returned (.string ⟨(joinL (fmts names ks)).toArray⟩) ∧ Below w1.heap.size w1 w' := by
          intro w1 hb1
          have hjj : (((fmts names ks).map fun l => (⟨l.toArray⟩ : ByteArray)).map (·.data.toList)) = fmts names ks := by
            rw [List.map_map]; simp [Function.comp_def]
          have hjn := Tryd.strings_Join (w.heap.size + 1) 0 ks.length ((fmts names ks).map fun l => ⟨l.toArray⟩) ⟨#[44, 32]⟩ w1 (by
            intro j x hx
            rw [List.getElem?_map] at hx
            obtain ⟨l, hl, rfl⟩ := Option.map_eq_some_iff.1 hx
            have hjl : j < ks.length := by
              have := (List.getElem?_eq_some_iff.1 hl).1
              rwa [fmts_len] at this
            rw [Nat.zero_add]
            refine (hb1.cell (p := ⟨w.heap.size + 1, j, none⟩) hs1).trans ((o j hjl).trans ?_)
            rw [fmAt_all, List.getD_eq_getElem?_getD, hl]
            rfl) (by have := hb1.size; omega) (by rw [List.length_map, fmts_len]; omega) (by rw [List.length_map, fmts_len]; omega) (by rw [hjj]; show (Lib.join _ [44, 32]).length ≤ _; rw [join_joinL]; omega)
          rw [hjj, List.length_map, fmts_len] at hjn
          have e2 : Lib.join (fmts names ks) (⟨#[44, 32]⟩ : ByteArray).data.toList = joinL (fmts names ks) := join_joinL _
          rw [e2] at hjn
          exact hjn
        have hO := fun w => opName_c t'.op w hop3 hop18
        unfold OpPost at hO
        have HR2 := Lib.hid (show (⟨ve.toArray⟩ : ByteArray) = ⟨(wordL t'.op).toArray⟩ ++ ⟨#[40]⟩ ++ ⟨(joinL (fmts names ks)).toArray⟩ ++ ⟨#[41]⟩ by
          rw [HR.out]; simp [ByteArray.mk_append_mk])
        have z1 : (⟨(wordL t'.op).toArray⟩ : ByteArray).size ≤ 8 := by rw [Lib.size_eq]; simpa using hwl
        have z2 : (⟨(joinL (fmts names ks)).toArray⟩ : ByteArray).size ≤ 200000 := by rw [Lib.size_eq]; simp; omega
        generalize (⟨(wordL t'.op).toArray⟩ : ByteArray) = s1 at hO HR2 z1
        generalize (⟨(joinL (fmts names ks)).toArray⟩ : ByteArray) = s2 at hJ HR2 z2
        have a1 : ∀ w, (Op.stringOp .add s1 ⟨#[40]⟩).run Tryd.prog w = .ok (.string (s1 ++ ⟨#[40]⟩)) w := fun w => run_string_add_sum w _ _ (by show s1.size + 1 ≤ _; omega)
        have y1 : (s1 ++ ⟨#[40]⟩ : ByteArray).size ≤ 9 := by rw [ByteArray.size_append]; show s1.size + 1 ≤ _; omega
        have a2 : ∀ w, (Op.stringOp .add (s1 ++ ⟨#[40]⟩) s2).run Tryd.prog w = .ok (.string (s1 ++ ⟨#[40]⟩ ++ s2)) w := fun w => run_string_add_sum w _ _ (by omega)
        have y2 : (s1 ++ ⟨#[40]⟩ ++ s2 : ByteArray).size ≤ 300000 := by rw [ByteArray.size_append]; omega
        have a3 : ∀ w, (Op.stringOp .add (s1 ++ ⟨#[40]⟩ ++ s2) ⟨#[41]⟩).run Tryd.prog w = .ok (.string (s1 ++ ⟨#[40]⟩ ++ s2 ++ ⟨#[41]⟩)) w := fun w => run_string_add_sum w _ _ (by show _ + 1 ≤ _; omega)
        clear hp ih hlt2 o fr hr hv hjl hwl y1 y2 z1 z2
        go_wp2_with (first
          | (go_at_call 72; refine (hO _).mono ?_; rintro e1 w1 ⟨rfl, hb1⟩; obtain ⟨hc1, hf1⟩ := bcell hb1; have hz1 := (hb1).size; (try simp at hz1); have hl10 : w.heap.size < w1.heap.size := (by omega); have hl11 : w.heap.size + 1 < w1.heap.size := (by omega))
          | (go_at_call 73; refine (hJ _ hb1).mono ?_; rintro e1 w2 ⟨rfl, hb2⟩))
        refine bodyPost_ret (by simp [results, Tryd.results50, go_sem, *]; rfl) rfl ?_
        unfold FmPost
        rw [HR2.out, ← HPE.out]
        exact ⟨rfl, by (repeat (first | (with_reducible exact Below.refl _ _) | (with_reducible assumption) | (with_reducible refine Below.drew ?_) | (with_reducible refine below_drewN ?_ _) | ((with_reducible refine Below.setCell ?_ ?_ _); rotate_left; (focus (first | (simp; done) | (simp; omega) | omega))) | ((with_reducible refine Below.alloc ?_ ?_ _); rotate_left; (focus (first | (simp; done) | (simp; omega) | omega))) | ((with_reducible apply below_step1); (focus (with_reducible assumption)))))⟩

theorem idle_Format (w : World) : CallsD Tryd.prog 49 #[] .returning w fun e u' w' => e = .returned (.tuple #[]) ∧ u' = .returning ∧ w' = w := by
  refine callsD_of_wpS Tryd.func49 rfl fun c₀ cs hu => ?_
  apply wpS_region
  cases c₀
  simp_all [wpOpsS, go_sem, recoverD, Tryd.ntmps49, Exit.thenS, bodyPostS, results, Tryd.results49]
set_option maxRecDepth 100000 in
set_option maxHeartbeats 1000000 in
theorem xformat (A R : Option Addr) (n c m d : Nat) (es : List T) (names : List ByteArray) (w : World) (hn : n ≤ maxLen) (hm : m ≤ maxLen) (hN : ∀ s ∈ names, s.size ≤ 100) (hG : G w) (hr : RowT w w.heap.size A n es) (hv : RowS w w.heap.size R m names) : Calls Tryd.prog 26 #[.slice A n c, .slice R m d] w fun e w' => e = .returned (.string ⟨(formatE es names).toArray⟩) ∧ Below w.heap.size w w' := by
  have hmf : ∀ (fn : Fn) (first cap : Array Value) (w : World), (Instr.makeFunc fn first cap).run Tryd.prog w = .ok (.func fn first cap) w := fun _ _ _ _ => rfl
  have hvd := xvalidE A n c es w hn hr
  cases hval : validE es
  · rw [hval] at hvd
    have HR := Lib.hid (show formatE es names = [] by unfold formatE; rw [treeE_bad hval])
    clear hval
    go_enter_defers Tryd.func26, Tryd.ntmps26
    go_wp2_with (go_at_call 18; refine hvd.mono ?_; rintro e w1 ⟨rfl, hb1⟩)
    refine leave_idle idle_Format (by simp [go_sem]) (by simp [results, Tryd.results26, go_sem]; rfl) ?_
    rw [HR.out]
    exact ⟨rfl, by (repeat (first | (with_reducible exact Below.refl _ _) | (with_reducible assumption) | (with_reducible refine Below.drew ?_) | (with_reducible refine below_drewN ?_ _) | ((with_reducible refine Below.setCell ?_ ?_ _); rotate_left; (focus (first | (simp; done) | (simp; omega) | omega))) | ((with_reducible refine Below.alloc ?_ ?_ _); rotate_left; (focus (first | (simp; done) | (simp; omega) | omega))) | ((with_reducible apply below_step1); (focus (with_reducible assumption)))))⟩
  · rw [hval] at hvd
    obtain ⟨x, hx, hfl, hw, hd, hl⟩ := treeE_ok hval
    have hl2 := hr.len
    have HR := Lib.hid (show formatE es names = x.fmt names by unfold formatE; rw [hx])
    have hev := fun w1 hG1 hr1 hv1 => formatAt_c A R n c m d es names (by omega) hm hN 16 x [] 0 w1 hd hw (by simpa using hfl) hG1 hr1 hv1
    clear hval hx hfl hw hd hl hl2
    go_enter_defers Tryd.func26, Tryd.ntmps26
    go_wp2_with (first
      | (go_at_call 18; refine hvd.mono ?_; rintro e w1 ⟨rfl, hb1⟩)
      | (go_at_call 50; refine (hev w1 (hG.below hb1) ((hr.below hb1).more hb1.size) ((hv.below hb1).more hb1.size)).mono ?_; rintro e w2 ⟨rfl, hb2⟩))
    refine leave_idle idle_Format (by simp [go_sem]) (by simp [results, Tryd.results26, go_sem]; rfl) ?_
    rw [HR.out]
    exact ⟨rfl, by (repeat (first | (with_reducible exact Below.refl _ _) | (with_reducible assumption) | (with_reducible refine Below.drew ?_) | (with_reducible refine below_drewN ?_ _) | ((with_reducible refine Below.setCell ?_ ?_ _); rotate_left; (focus (first | (simp; done) | (simp; omega) | omega))) | ((with_reducible refine Below.alloc ?_ ?_ _); rotate_left; (focus (first | (simp; done) | (simp; omega) | omega))) | ((with_reducible apply below_step1); (focus (with_reducible assumption)))))⟩
end Go.Proofs.YtojcabnjodfdmaaDoor
