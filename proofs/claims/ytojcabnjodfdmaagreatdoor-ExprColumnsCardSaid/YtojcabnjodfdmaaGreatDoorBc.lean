/- Contract of the program's evalAt. Contracts of the program's Eval and Holds. Contract of the program's opName. No condition. Contracts of the program's opName, formatAt and Format: names of at most a hundred bytes; the table of powers of ten is as it is laid. How the arguments of the laws are opened: values and rows of values that came in. No condition. How a row of terms that came in is opened. No condition. What a slice that came in has as its capacity. No condition. How a slice of ints that came in is opened. No condition. What the rows' lists of package-level variables give, and a world that meets them. No condition. Contracts of the laws' plus and awake; the table of powers of ten is as it is laid. -/
import Derived.Test.YtojcabnjodfdmaaGreatDoorBb
import Derived.Test.YtojcabnjodfdmaaGreatDoorBa
import Derived.Laws.Tables
import Derived.Laws.CopyOwn
import Derived.Laws.MakeOwn
import Derived.Laws.Concat
import Derived.ProofKit
import Derived.Deep.Slices
import Derived.Deep.Fields
import Derived.ChangeSame
import Derived.Carry
import Derived.SizedLaws
import Derived.Test.YtojcabnjodfdmaaGreatDoorCards
import Derived.Test.YtojcabnjodfdmaaGreatDoorTie
import Derived.WalkKit
import Derived.OpenShut
import Derived.Deep.DeepHandedRow
import Derived.Lib.LaidTab
import Derived.LaidSub
namespace Go.Proofs.YtojcabnjodfdmaaGreatDoor
open Go.RowKit

theorem ext_of {W X : World} (h : Below W.heap.size W X) : Below W.heap.size W X ∧ ∀ b o, b < W.heap.size → X.cell? ⟨b, o, none⟩ = W.cell? ⟨b, o, none⟩ := ⟨h, fun b o hb => h.cell (p := ⟨b, o, none⟩) hb⟩
def EvPost (w : World) (v : V) (k : Nat) (e : Ending) (w' : World) : Prop := e = .returned (.tuple #[.agg #[.int .i64 v.k, .int .i64 v.n, .string v.s], .int .i64 (k : Int)]) ∧ Below w.heap.size w w'
/-- The j-th of the first i operands' values. -/
def evAt (row : List V) (ks : List X) (i j : Nat) : V := (evs row (ks.take i)).getD j V.null
theorem evAt_zero (row : List V) (ks : List X) (j : Nat) : evAt row ks 0 j = V.null := by simp [evAt, evs]
theorem getD_snoc (l : List V) (v : V) (j : Nat) : (l ++ [v]).getD j V.null = if j = l.length then v else l.getD j V.null := by
  simp only [List.getD_eq_getElem?_getD]
  split
  · rename_i h; subst h; simp
  · rename_i h
    rcases Nat.lt_or_ge j l.length with h1 | h1
    · rw [List.getElem?_append_left h1]
    · rw [List.getElem?_append_right h1, List.getElem?_eq_none (l := l) h1, List.getElem?_eq_none (by simp; omega)]
theorem evAt_succ {row : List V} {ks : List X} {i : Nat} {k : X} (h : ks[i]? = some k) (j : Nat) : evAt row ks (i + 1) j = if j = i then k.ev row else evAt row ks i j := by
  have hl : i < ks.length := (List.getElem?_eq_some_iff.1 h).1
  unfold evAt
  rw [List.take_add_one, h]
  simp only [Option.toList_some]
  rw [evs_snoc, getD_snoc, evs_len, List.length_take, Nat.min_eq_left (by omega)]
theorem evAt_all (row : List V) (ks : List X) (j : Nat) : evAt row ks ks.length j = (evs row ks).getD j V.null := by simp [evAt]
/-- Where the i-th operand lies, and what it is. -/
theorem kid_at {es : List T} {pos : Nat} {t : T} {ks : List X} {r : List T} (hx : es.drop pos = (X.node t ks).flat ++ r) {i : Nat} {k : X} (h : ks[i]? = some k) : es.drop (pos + 1 + (flats (ks.take i)).length) = k.flat ++ (flats (ks.drop (i + 1)) ++ r) := by
  have hl : i < ks.length := (List.getElem?_eq_some_iff.1 h).1
  have hs : flats ks = flats (ks.take i) ++ (k.flat ++ flats (ks.drop (i + 1))) := by
    conv => lhs; rw [← List.take_append_drop i ks]
    rw [List.drop_eq_getElem_cons hl, (List.getElem?_eq_some_iff.1 h).2]
    generalize ks.take i = l
    induction l with
    | nil => simp [flats]
    | cons y ys ih => simp only [List.cons_append, flats_cons, ih]; simp
  rw [X.flat_node, hs] at hx
  have e1 : es.drop (pos + 1) = flats (ks.take i) ++ (k.flat ++ flats (ks.drop (i + 1))) ++ r := by
    rw [← List.drop_drop, hx]; simp
  rw [← List.drop_drop, e1, List.append_assoc, List.drop_left, List.append_assoc]
theorem kid_in {ks : List X} {i : Nat} {k : X} (h : ks[i]? = some k) : k.depth ≤ deepest ks ∧ (wfs ks = true → k.wf = true) ∧ (flats (ks.take (i + 1))).length = (flats (ks.take i)).length + k.flat.length := by
  have hl : i < ks.length := (List.getElem?_eq_some_iff.1 h).1
  refine ⟨?_, ?_, ?_⟩
  · have : ∀ (l : List X) (k : X), k ∈ l → k.depth ≤ deepest l := by
      intro l
      induction l with
      | nil => intro k hk; cases hk
      | cons y ys ih =>
        intro k hk
        simp only [deepest]
        rcases List.mem_cons.1 hk with rfl | hk
        · omega
        · have := ih k hk; omega
    exact this ks k (List.mem_of_getElem? h)
  · have : ∀ (l : List X) (k : X), k ∈ l → wfs l = true → k.wf = true := by
      intro l
      induction l with
      | nil => intro k hk; cases hk
      | cons y ys ih =>
        intro k hk hw
        simp only [wfs, Bool.and_eq_true] at hw
        rcases List.mem_cons.1 hk with rfl | hk
        · exact hw.1
        · exact ih k hk hw.2
    exact this ks k (List.mem_of_getElem? h)
  · rw [List.take_add_one, h]
    simp only [Option.toList_some]
    rw [flats_snoc, List.length_append]
/-- What lies in evalAt's own blocks: the result's, the term's, the operands'. -/
structure Ev3 (w wr : World) (t : T) (a b c : V) : Prop where
  bel : Below w.heap.size w wr
  sz : w.heap.size + 3 ≤ wr.heap.size
  fr0 : ∀ i, wr.frozen? ⟨w.heap.size, i, none⟩ = false
  fr2 : ∀ i, wr.frozen? ⟨w.heap.size + 1 + 1, i, none⟩ = false
  r0 : wr.cell? ⟨w.heap.size, 0, none⟩ = some (.int .i64 0)
  r1 : wr.cell? ⟨w.heap.size, 1, none⟩ = some (.int .i64 0)
  r2 : wr.cell? ⟨w.heap.size, 2, none⟩ = some (.string ⟨#[]⟩)
  t0 : wr.cell? ⟨w.heap.size + 1, 0, none⟩ = some (.int .i64 t.op)
  t1 : wr.cell? ⟨w.heap.size + 1, 1, none⟩ = some (.int .i64 t.v.k)
  t2 : wr.cell? ⟨w.heap.size + 1, 2, none⟩ = some (.int .i64 t.v.n)
  t3 : wr.cell? ⟨w.heap.size + 1, 3, none⟩ = some (.string t.v.s)
  t4 : wr.cell? ⟨w.heap.size + 1, 4, none⟩ = some (.int .i64 t.c)
  o0 : wr.cell? ⟨w.heap.size + 1 + 1, 0, none⟩ = some (.int .i64 a.k)
  o1 : wr.cell? ⟨w.heap.size + 1 + 1, 1, none⟩ = some (.int .i64 a.n)
  o2 : wr.cell? ⟨w.heap.size + 1 + 1, 2, none⟩ = some (.string a.s)
  o3 : wr.cell? ⟨w.heap.size + 1 + 1, 3, none⟩ = some (.int .i64 b.k)
  o4 : wr.cell? ⟨w.heap.size + 1 + 1, 4, none⟩ = some (.int .i64 b.n)
  o5 : wr.cell? ⟨w.heap.size + 1 + 1, 5, none⟩ = some (.string b.s)
  o6 : wr.cell? ⟨w.heap.size + 1 + 1, 6, none⟩ = some (.int .i64 c.k)
  o7 : wr.cell? ⟨w.heap.size + 1 + 1, 7, none⟩ = some (.int .i64 c.n)
  o8 : wr.cell? ⟨w.heap.size + 1 + 1, 8, none⟩ = some (.string c.s)

/-- What lies behind 'a, b, c := operands[0], operands[1], operands[2]'. -/
structure Ev6 (w wx : World) (t : T) (a b c : V) (x y z : Nat) : Prop where
  bel : Below w.heap.size w wx
  sz : w.heap.size + 3 ≤ wx.heap.size
  lx : x < wx.heap.size
  ly : y < wx.heap.size
  lz : z < wx.heap.size
  fr0 : ∀ i, wx.frozen? ⟨w.heap.size, i, none⟩ = false
  r0 : wx.cell? ⟨w.heap.size, 0, none⟩ = some (.int .i64 0)
  r1 : wx.cell? ⟨w.heap.size, 1, none⟩ = some (.int .i64 0)
  r2 : wx.cell? ⟨w.heap.size, 2, none⟩ = some (.string ⟨#[]⟩)
  t0 : wx.cell? ⟨w.heap.size + 1, 0, none⟩ = some (.int .i64 t.op)
  t1 : wx.cell? ⟨w.heap.size + 1, 1, none⟩ = some (.int .i64 t.v.k)
  t2 : wx.cell? ⟨w.heap.size + 1, 2, none⟩ = some (.int .i64 t.v.n)
  t3 : wx.cell? ⟨w.heap.size + 1, 3, none⟩ = some (.string t.v.s)
  t4 : wx.cell? ⟨w.heap.size + 1, 4, none⟩ = some (.int .i64 t.c)
  a0 : wx.cell? ⟨x, 0, none⟩ = some (.int .i64 a.k)
  a1 : wx.cell? ⟨x, 1, none⟩ = some (.int .i64 a.n)
  a2 : wx.cell? ⟨x, 2, none⟩ = some (.string a.s)
  b0 : wx.cell? ⟨y, 0, none⟩ = some (.int .i64 b.k)
  b1 : wx.cell? ⟨y, 1, none⟩ = some (.int .i64 b.n)
  b2 : wx.cell? ⟨y, 2, none⟩ = some (.string b.s)
  c0 : wx.cell? ⟨z, 0, none⟩ = some (.int .i64 c.k)
  c1 : wx.cell? ⟨z, 1, none⟩ = some (.int .i64 c.n)
  c2 : wx.cell? ⟨z, 2, none⟩ = some (.string c.s)
def EvCut (w : World) (t : T) (a b c : V) (p12 p13 p14 : Value) (wx : World) : Prop := ∃ x y z : Nat, p12 = .pointer (some ⟨x, 0, none⟩) ∧ p13 = .pointer (some ⟨y, 0, none⟩) ∧ p14 = .pointer (some ⟨z, 0, none⟩) ∧ Ev6 w wx t a b c x y z

def EvRel (w : World) (t : T) (row : List V) (ks : List X) (pos : Nat) (v9 v24 : Value) (wr : World) : Prop := ∃ i p : Nat, i ≤ ks.length ∧ v24 = .int .i64 i ∧ v9 = .int .i64 (p : Int) ∧ p = pos + 1 + (flats (ks.take i)).length ∧ Ev3 w wr t (evAt row ks i 0) (evAt row ks i 1) (evAt row ks i 2)
set_option maxRecDepth 100000 in
set_option maxHeartbeats 8000000 in
theorem evalAt_c (A R : Option Addr) (n c m d : Nat) (es : List T) (row : List V) (hn : n ≤ 1000) (hm : m ≤ maxLen) : ∀ (f : Nat) (x : X) (r : List T) (pos : Nat) (w : World), x.depth ≤ f → x.wf = true → es.drop pos = x.flat ++ r → RowT w w.heap.size A n es → Row w w.heap.size R m row → Calls Tryz.prog 32 #[.slice A n c, .int .i64 (pos : Int), .slice R m d] w (EvPost w (x.ev row) (pos + x.flat.length)) := by
  intro f
  induction f with
  | zero => intro x r pos w hd; have := x.depth_pos; omega
  | succ f ih =>
    intro x r pos w hd hw hx hr hv
    obtain ⟨t, ks⟩ := x
    have hlen := congrArg List.length hx
    rw [List.length_drop, X.flat_node, List.length_append, List.length_cons, hr.len] at hlen
    have hlt : pos < n := by omega
    obtain ⟨b, off, t', rfl, hb, ht, c0, c1, c2, c3, c4⟩ := RowT.at5 hr hlt
    have htt : t' = t := by
      have h2 := drop_term ht
      rw [hx, X.flat_node, List.cons_append] at h2
      injection h2 with h2 _
      exact h2.symm
    subst htt
    have hp0 : (0 : Int) ≤ (pos : Int) := by omega
    have hp1 : (pos : Int) < (n : Int) := by omega
    have hpw : IntKind.i64.wrap ((pos : Int) + 1) = (pos : Int) + 1 := IntWalk.i64_in _ (by omega)
    have hw2 := hw
    simp only [X.wf, Bool.and_eq_true, decide_eq_true_eq] at hw2
    obtain ⟨hok, hkl, hkw⟩ := hw2
    have hak : 0 ≤ arity t'.op := by
      rw [T.ok_fok, Bool.and_eq_true, decide_eq_true_eq] at hok
      exact hok.1
    have HN := Lib.hid (show (ks.length : Int) = arity t'.op by rw [hkl]; unfold ar; omega)
    have har := arity_range t'.op
    have hk3 : ks.length ≤ 3 := by have := HN.out; omega
    simp only [X.depth] at hd
    have HX := Lib.hid hx
    have HK := Lib.hid hok
    have HW := Lib.hid hkw
    have HFL := Lib.hid hlen
    have HP := Lib.hid (show pos + (X.node t' ks).flat.length = pos + 1 + (flats ks).length by rw [X.flat_node, List.length_cons]; omega)
    have HE := Lib.hid (show (X.node t' ks).ev row = termV row t' (evs row ks) by rw [X.ev])
    generalize pos + (X.node t' ks).flat.length = pe at HP
    generalize (X.node t' ks).ev row = ve at HE
    clear ht hx hok hkw hw hkl hlen
    go_enter Tryz.func32, Tryz.ntmps32
    go_wp2_with (go_at_call 42; refine (xarity t'.op _).mono ?_; rintro e w1 ⟨rfl, rfl⟩)
    go_loopw [9, 24] (fun v9 v24 wr => EvRel w t' row ks pos v9 v24 wr) (fun _ v24 _ => ks.length - (intOf v24).toNat)
    case atStart =>
      refine ⟨0, pos + 1, Nat.zero_le _, rfl, by go_num, by simp [flats], ?_⟩
      rw [evAt_zero, evAt_zero, evAt_zero]
      constructor
      · (repeat (first | (with_reducible exact Below.refl _ _) | (with_reducible assumption) | (with_reducible refine Below.drew ?_) | (with_reducible refine below_drewN ?_ _) | ((with_reducible refine Below.setCell ?_ ?_ _); rotate_left; (focus (first | (simp; done) | (simp; omega) | omega))) | ((with_reducible refine Below.alloc ?_ ?_ _); rotate_left; (focus (first | (simp; done) | (simp; omega) | omega))) | ((with_reducible apply below_step1); (focus (with_reducible assumption)))))
      · simp
      all_goals (first | (intro i; simp [go_sem]; done) | (simp [go_sem, V.null]; done) | trace_state)
    case round =>
      obtain ⟨i, p, hi, rfl, rfl, hp, h3⟩ := hrel
      obtain ⟨hbel, hsz, fr0, fr2, r0, r1, r2, t0, t1, t2, t3, t4, o0, o1, o2, o3, o4, o5, o6, o7, o8⟩ := h3
      have hzz := hbel.size
      have hs0 : w.heap.size < wr.heap.size := by omega
      have hs1 : w.heap.size + 1 < wr.heap.size := by omega
      have hs2 : w.heap.size + 1 + 1 < wr.heap.size := by omega
      by_cases hlt2 : i < ks.length
      · have hia : (i : Int) < arity t'.op := by have := HN.out; omega
        have hki : ks[i]? = some ks[i] := List.getElem?_eq_getElem hlt2
        generalize ks[i] = k at hki
        obtain ⟨k1, k2, k3⟩ := kid_in hki
        have hka := kid_at HX.out hki
        rw [← hp] at hka
        have ihe := ih k _ p wr (by omega) (k2 HW.out) hka ((hr.below hbel).more hzz) ((hv.below hbel).more hzz)
        have HS := Lib.hid (evAt_succ (row := row) hki)
        have hbnd : p + k.flat.length ≤ 1000 := by
          have h2 := congrArg List.length hka
          rw [List.length_drop, List.length_append, hr.len] at h2
          have h4 := k.flat_pos
          omega
        have HP1 := Lib.hid (show p + k.flat.length = pos + 1 + (flats (ks.take (i + 1))).length by omega)
        generalize p + k.flat.length = p1 at ihe hbnd HP1
        generalize k.ev row = kv at ihe HS
        clear hka hki k1 k2 k3 hp hr hv ih
        obtain rfl | rfl | rfl : i = 0 ∨ i = 1 ∨ i = 2 := by omega
        · go_wp2_with (go_at_call 32; refine ihe.mono ?_; rintro e2 w2 ⟨rfl, hb2⟩; obtain ⟨hc2, hf2⟩ := bcell hb2; have hz2 := (hb2).size; (try simp at hz2); have hl20 : w.heap.size < w2.heap.size := (by omega); have hl21 : w.heap.size + 1 < w2.heap.size := (by omega); have hl22 : w.heap.size + 1 + 1 < w2.heap.size := (by omega))
          refine ⟨⟨1, p1, by omega, rfl, rfl, HP1.out, ?_⟩, by simp [intOf]; omega⟩
          rw [HS.out 0, HS.out 1, HS.out 2, if_pos rfl, if_neg (by decide), if_neg (by decide)]
          constructor
          · (repeat (first | (with_reducible exact Below.refl _ _) | (with_reducible assumption) | (with_reducible refine Below.drew ?_) | (with_reducible refine below_drewN ?_ _) | ((with_reducible refine Below.setCell ?_ ?_ _); rotate_left; (focus (first | (simp; done) | (simp; omega) | omega))) | ((with_reducible refine Below.alloc ?_ ?_ _); rotate_left; (focus (first | (simp; done) | (simp; omega) | omega))) | ((with_reducible apply below_step1); (focus (with_reducible assumption)))))
          · simp; omega
          all_goals (first | (intro i; simp [go_sem, *]; done) | (simp [go_sem, *]; done))
        · go_wp2_with (go_at_call 32; refine ihe.mono ?_; rintro e2 w2 ⟨rfl, hb2⟩; obtain ⟨hc2, hf2⟩ := bcell hb2; have hz2 := (hb2).size; (try simp at hz2); have hl20 : w.heap.size < w2.heap.size := (by omega); have hl21 : w.heap.size + 1 < w2.heap.size := (by omega); have hl22 : w.heap.size + 1 + 1 < w2.heap.size := (by omega))
          refine ⟨⟨2, p1, by omega, rfl, rfl, HP1.out, ?_⟩, by simp [intOf]; omega⟩
          rw [HS.out 0, HS.out 1, HS.out 2, if_neg (by decide), if_pos rfl, if_neg (by decide)]
          constructor
          · (repeat (first | (with_reducible exact Below.refl _ _) | (with_reducible assumption) | (with_reducible refine Below.drew ?_) | (with_reducible refine below_drewN ?_ _) | ((with_reducible refine Below.setCell ?_ ?_ _); rotate_left; (focus (first | (simp; done) | (simp; omega) | omega))) | ((with_reducible refine Below.alloc ?_ ?_ _); rotate_left; (focus (first | (simp; done) | (simp; omega) | omega))) | ((with_reducible apply below_step1); (focus (with_reducible assumption)))))
          · simp; omega
          all_goals (first | (intro i; simp [go_sem, *]; done) | (simp [go_sem, *]; done))
        · go_wp2_with (go_at_call 32; refine ihe.mono ?_; rintro e2 w2 ⟨rfl, hb2⟩; obtain ⟨hc2, hf2⟩ := bcell hb2; have hz2 := (hb2).size; (try simp at hz2); have hl20 : w.heap.size < w2.heap.size := (by omega); have hl21 : w.heap.size + 1 < w2.heap.size := (by omega); have hl22 : w.heap.size + 1 + 1 < w2.heap.size := (by omega))
          refine ⟨⟨3, p1, by omega, rfl, rfl, HP1.out, ?_⟩, by simp [intOf]; omega⟩
          rw [HS.out 0, HS.out 1, HS.out 2, if_neg (by decide), if_neg (by decide), if_pos rfl]
          constructor
          · (repeat (first | (with_reducible exact Below.refl _ _) | (with_reducible assumption) | (with_reducible refine Below.drew ?_) | (with_reducible refine below_drewN ?_ _) | ((with_reducible refine Below.setCell ?_ ?_ _); rotate_left; (focus (first | (simp; done) | (simp; omega) | omega))) | ((with_reducible refine Below.alloc ?_ ?_ _); rotate_left; (focus (first | (simp; done) | (simp; omega) | omega))) | ((with_reducible apply below_step1); (focus (with_reducible assumption)))))
          · simp; omega
          all_goals (first | (intro i; simp [go_sem, *]; done) | (simp [go_sem, *]; done))
      · have hia : ¬ (i : Int) < arity t'.op := by have := HN.out; omega
        obtain rfl : i = ks.length := by omega
        rw [List.take_length] at hp
        have HPE := Lib.hid (show p = pe by rw [hp, HP.out])
        have hev := evs_ok row ks HW.out
        have va_ok := getD_ok hev 0
        have vb_ok := getD_ok hev 1
        have vc_ok := getD_ok hev 2
        rw [evAt_all] at o0 o1 o2 o3 o4 o5 o6 o7 o8
        unfold termV at HE
        generalize (evs row ks).getD 0 V.null = va at o0 o1 o2 HE va_ok
        generalize (evs row ks).getD 1 V.null = vb at o3 o4 o5 HE vb_ok
        generalize (evs row ks).getD 2 V.null = vc at o6 o7 o8 HE vc_ok
        clear hev hp ih hlt2
        go_upto_region 9 with fail
        go_cut [12, 13, 14] (fun p12 p13 p14 wx => EvCut w t' va vb vc p12 p13 p14 wx)
        case first =>
          go_region_held3 (fun w' => Below (wr).heap.size (wr) w' ∧ ∀ b o, b < (wr).heap.size → w'.cell? ⟨b, o, none⟩ = (wr).cell? ⟨b, o, none⟩) (((with_reducible refine ext_of ?_); (repeat (first | (with_reducible exact Below.refl _ _) | (with_reducible assumption) | (with_reducible refine Below.drew ?_) | (with_reducible refine below_drewN ?_ _) | ((with_reducible refine Below.setCell ?_ ?_ _); rotate_left; (focus (first | (simp; done) | (simp; omega) | omega))) | ((with_reducible refine Below.alloc ?_ ?_ _); rotate_left; (focus (first | (simp; done) | (simp; omega) | omega))) | ((with_reducible apply below_step1); (focus (with_reducible assumption))))))) (fail)
          all_goals go_wp2_with fail
          all_goals go_meet
          all_goals go_light
          all_goals refine ⟨_, _, _, rfl, rfl, rfl, ?_⟩
          all_goals constructor
          all_goals (first | (simp; done) | (simp; omega) | (intro i; refine ((show Below wr.heap.size wr _ by (repeat (first | (with_reducible exact Below.refl _ _) | (with_reducible assumption) | (with_reducible refine Below.drew ?_) | (with_reducible refine below_drewN ?_ _) | ((with_reducible refine Below.setCell ?_ ?_ _); rotate_left; (focus (first | (simp; done) | (simp; omega) | omega))) | ((with_reducible refine Below.alloc ?_ ?_ _); rotate_left; (focus (first | (simp; done) | (simp; omega) | omega))) | ((with_reducible apply below_step1); (focus (with_reducible assumption)))))).frozen (p := ⟨w.heap.size, i, none⟩) hs0).trans (fr0 i)) | (simp [go_sem, *]; done) | ((repeat (first | (with_reducible exact Below.refl _ _) | (with_reducible assumption) | (with_reducible refine Below.drew ?_) | (with_reducible refine below_drewN ?_ _) | ((with_reducible refine Below.setCell ?_ ?_ _); rotate_left; (focus (first | (simp; done) | (simp; omega) | omega))) | ((with_reducible refine Below.alloc ?_ ?_ _); rotate_left; (focus (first | (simp; done) | (simp; omega) | omega))) | ((with_reducible apply below_step1); (focus (with_reducible assumption))))); done))
        case rest =>
          obtain ⟨x, y, z, rfl, rfl, rfl, h6⟩ := hcut
          clear r0 r1 r2 t0 t1 t2 t3 t4 o0 o1 o2 o3 o4 o5 o6 o7 o8 fr0 fr2
          obtain ⟨xbel, xsz, lx, ly, lz, fr0, r0, r1, r2, t0, t1, t2, t3, t4, a0, a1, a2, b0, b1, b2, d0, d1, d2⟩ := h6
          have hx0 : w.heap.size < wc.heap.size := by omega
          have hx1 : w.heap.size + 1 < wc.heap.size := by omega
          have hrow := (hv.below xbel).more xbel.size
          have HTO := Lib.hid (term_op HK.out)
          have sa := ok_size va_ok
          have sb := ok_size vb_ok
          have na := ok_bounds va_ok
          have nb := ok_bounds vb_ok
          clear hv hr
          by_cases hk : t'.op = 1
          · have tk : (t'.op == 1) = true := by simpa using hk
            have HR := Lib.hid (show ve = t'.v by rw [HE.out, if_pos hk])
            clear hk
            go_wp2_with fail
            refine bodyPost_ret (by simp [results, Tryz.results32, go_sem, *]; rfl) rfl ?_
            unfold EvPost
            rw [HR.out, ← HPE.out]
            exact ⟨rfl, by (repeat (first | (with_reducible exact Below.refl _ _) | (with_reducible assumption) | (with_reducible refine Below.drew ?_) | (with_reducible refine below_drewN ?_ _) | ((with_reducible refine Below.setCell ?_ ?_ _); rotate_left; (focus (first | (simp; done) | (simp; omega) | omega))) | ((with_reducible refine Below.alloc ?_ ?_ _); rotate_left; (focus (first | (simp; done) | (simp; omega) | omega))) | ((with_reducible apply below_step1); (focus (with_reducible assumption)))))⟩
          have tk1 : (t'.op == 1) = false := by simpa using hk
          have hk1 := Lib.hid hk
          clear hk
          by_cases hk : t'.op = 2
          · have tk : (t'.op == 2) = true := by simpa using hk
            have hc0 := (term_col HK.out hk).1
            have HR := Lib.hid (show ve = cellV row t'.c by rw [HE.out, if_neg (by omega), if_pos hk])
            clear hk
            go_wp2_with (go_at_call 48; refine (cell_c R m d row t'.c _ hm hc0 hrow).mono ?_; rintro e w1 ⟨rfl, hb1⟩; obtain ⟨hc1, hf1⟩ := bcell hb1; have hz1 := (hb1).size; (try simp at hz1); have hl10 : w.heap.size < w1.heap.size := (by omega))
            refine bodyPost_ret (by simp [results, Tryz.results32, go_sem, *]; rfl) rfl ?_
            unfold EvPost
            rw [HR.out, ← HPE.out]
            exact ⟨rfl, by (repeat (first | (with_reducible exact Below.refl _ _) | (with_reducible assumption) | (with_reducible refine Below.drew ?_) | (with_reducible refine below_drewN ?_ _) | ((with_reducible refine Below.setCell ?_ ?_ _); rotate_left; (focus (first | (simp; done) | (simp; omega) | omega))) | ((with_reducible refine Below.alloc ?_ ?_ _); rotate_left; (focus (first | (simp; done) | (simp; omega) | omega))) | ((with_reducible apply below_step1); (focus (with_reducible assumption)))))⟩
          have tk2 : (t'.op == 2) = false := by simpa using hk
          have hk2 := Lib.hid hk
          clear hk
          by_cases hk : t'.op = 14
          · have tk : (t'.op == 14) = true := by simpa using hk
            have HR := Lib.hid (show ve = lenientV t'.op va vb vc by rw [HE.out, if_neg (by omega), if_neg (by omega), opV, if_pos (by omega)])
            clear hk
            go_wp2_with (go_at_call 49; refine (lenient_c t'.op va vb vc _).mono ?_; rintro e w1 ⟨rfl, hb1⟩; obtain ⟨hc1, hf1⟩ := bcell hb1; have hz1 := (hb1).size; (try simp at hz1); have hl10 : w.heap.size < w1.heap.size := (by omega))
            refine bodyPost_ret (by simp [results, Tryz.results32, go_sem, *]; rfl) rfl ?_
            unfold EvPost
            rw [HR.out, ← HPE.out]
            exact ⟨rfl, by (repeat (first | (with_reducible exact Below.refl _ _) | (with_reducible assumption) | (with_reducible refine Below.drew ?_) | (with_reducible refine below_drewN ?_ _) | ((with_reducible refine Below.setCell ?_ ?_ _); rotate_left; (focus (first | (simp; done) | (simp; omega) | omega))) | ((with_reducible refine Below.alloc ?_ ?_ _); rotate_left; (focus (first | (simp; done) | (simp; omega) | omega))) | ((with_reducible apply below_step1); (focus (with_reducible assumption)))))⟩
          have tk14 : (t'.op == 14) = false := by simpa using hk
          have hk14 := Lib.hid hk
          clear hk
          by_cases hk : t'.op = 15
          · have tk : (t'.op == 15) = true := by simpa using hk
            have HR := Lib.hid (show ve = lenientV t'.op va vb vc by rw [HE.out, if_neg (by omega), if_neg (by omega), opV, if_pos (by omega)])
            clear hk
            go_wp2_with (go_at_call 49; refine (lenient_c t'.op va vb vc _).mono ?_; rintro e w1 ⟨rfl, hb1⟩; obtain ⟨hc1, hf1⟩ := bcell hb1; have hz1 := (hb1).size; (try simp at hz1); have hl10 : w.heap.size < w1.heap.size := (by omega))
            refine bodyPost_ret (by simp [results, Tryz.results32, go_sem, *]; rfl) rfl ?_
            unfold EvPost
            rw [HR.out, ← HPE.out]
            exact ⟨rfl, by (repeat (first | (with_reducible exact Below.refl _ _) | (with_reducible assumption) | (with_reducible refine Below.drew ?_) | (with_reducible refine below_drewN ?_ _) | ((with_reducible refine Below.setCell ?_ ?_ _); rotate_left; (focus (first | (simp; done) | (simp; omega) | omega))) | ((with_reducible refine Below.alloc ?_ ?_ _); rotate_left; (focus (first | (simp; done) | (simp; omega) | omega))) | ((with_reducible apply below_step1); (focus (with_reducible assumption)))))⟩
          have tk15 : (t'.op == 15) = false := by simpa using hk
          have hk15 := Lib.hid hk
          clear hk
          by_cases hk : t'.op = 16
          · have tk : (t'.op == 16) = true := by simpa using hk
            have HR := Lib.hid (show ve = lenientV t'.op va vb vc by rw [HE.out, if_neg (by omega), if_neg (by omega), opV, if_pos (by omega)])
            clear hk
            go_wp2_with (go_at_call 49; refine (lenient_c t'.op va vb vc _).mono ?_; rintro e w1 ⟨rfl, hb1⟩; obtain ⟨hc1, hf1⟩ := bcell hb1; have hz1 := (hb1).size; (try simp at hz1); have hl10 : w.heap.size < w1.heap.size := (by omega))
            refine bodyPost_ret (by simp [results, Tryz.results32, go_sem, *]; rfl) rfl ?_
            unfold EvPost
            rw [HR.out, ← HPE.out]
            exact ⟨rfl, by (repeat (first | (with_reducible exact Below.refl _ _) | (with_reducible assumption) | (with_reducible refine Below.drew ?_) | (with_reducible refine below_drewN ?_ _) | ((with_reducible refine Below.setCell ?_ ?_ _); rotate_left; (focus (first | (simp; done) | (simp; omega) | omega))) | ((with_reducible refine Below.alloc ?_ ?_ _); rotate_left; (focus (first | (simp; done) | (simp; omega) | omega))) | ((with_reducible apply below_step1); (focus (with_reducible assumption)))))⟩
          have tk16 : (t'.op == 16) = false := by simpa using hk
          have hk16 := Lib.hid hk
          clear hk
          by_cases hk : t'.op = 17
          · have tk : (t'.op == 17) = true := by simpa using hk
            have HR := Lib.hid (show ve = lenientV t'.op va vb vc by rw [HE.out, if_neg (by omega), if_neg (by omega), opV, if_pos (by omega)])
            clear hk
            go_wp2_with (go_at_call 49; refine (lenient_c t'.op va vb vc _).mono ?_; rintro e w1 ⟨rfl, hb1⟩; obtain ⟨hc1, hf1⟩ := bcell hb1; have hz1 := (hb1).size; (try simp at hz1); have hl10 : w.heap.size < w1.heap.size := (by omega))
            refine bodyPost_ret (by simp [results, Tryz.results32, go_sem, *]; rfl) rfl ?_
            unfold EvPost
            rw [HR.out, ← HPE.out]
            exact ⟨rfl, by (repeat (first | (with_reducible exact Below.refl _ _) | (with_reducible assumption) | (with_reducible refine Below.drew ?_) | (with_reducible refine below_drewN ?_ _) | ((with_reducible refine Below.setCell ?_ ?_ _); rotate_left; (focus (first | (simp; done) | (simp; omega) | omega))) | ((with_reducible refine Below.alloc ?_ ?_ _); rotate_left; (focus (first | (simp; done) | (simp; omega) | omega))) | ((with_reducible apply below_step1); (focus (with_reducible assumption)))))⟩
          have tk17 : (t'.op == 17) = false := by simpa using hk
          have hk17 := Lib.hid hk
          clear hk
          by_cases hk : t'.op = 18
          · have tk : (t'.op == 18) = true := by simpa using hk
            have HR := Lib.hid (show ve = lenientV t'.op va vb vc by rw [HE.out, if_neg (by omega), if_neg (by omega), opV, if_pos (by omega)])
            clear hk
            go_wp2_with (go_at_call 49; refine (lenient_c t'.op va vb vc _).mono ?_; rintro e w1 ⟨rfl, hb1⟩; obtain ⟨hc1, hf1⟩ := bcell hb1; have hz1 := (hb1).size; (try simp at hz1); have hl10 : w.heap.size < w1.heap.size := (by omega))
            refine bodyPost_ret (by simp [results, Tryz.results32, go_sem, *]; rfl) rfl ?_
            unfold EvPost
            rw [HR.out, ← HPE.out]
            exact ⟨rfl, by (repeat (first | (with_reducible exact Below.refl _ _) | (with_reducible assumption) | (with_reducible refine Below.drew ?_) | (with_reducible refine below_drewN ?_ _) | ((with_reducible refine Below.setCell ?_ ?_ _); rotate_left; (focus (first | (simp; done) | (simp; omega) | omega))) | ((with_reducible refine Below.alloc ?_ ?_ _); rotate_left; (focus (first | (simp; done) | (simp; omega) | omega))) | ((with_reducible apply below_step1); (focus (with_reducible assumption)))))⟩
          have tk18 : (t'.op == 18) = false := by simpa using hk
          have hk18 := Lib.hid hk
          clear hk
          by_cases hk : t'.op = 8
          · have tk : (t'.op == 8) = true := by simpa using hk
            have HR := Lib.hid (show ve = textV t'.op va vb by rw [HE.out, if_neg (by omega), if_neg (by omega), opV, if_neg (by omega), if_pos (by omega)])
            clear hk
            go_wp2_with (go_at_call 50; refine (ofText_c t'.op va vb _ (by omega) (by omega)).mono ?_; rintro e w1 ⟨rfl, hb1⟩; obtain ⟨hc1, hf1⟩ := bcell hb1; have hz1 := (hb1).size; (try simp at hz1); have hl10 : w.heap.size < w1.heap.size := (by omega))
            refine bodyPost_ret (by simp [results, Tryz.results32, go_sem, *]; rfl) rfl ?_
            unfold EvPost
            rw [HR.out, ← HPE.out]
            exact ⟨rfl, by (repeat (first | (with_reducible exact Below.refl _ _) | (with_reducible assumption) | (with_reducible refine Below.drew ?_) | (with_reducible refine below_drewN ?_ _) | ((with_reducible refine Below.setCell ?_ ?_ _); rotate_left; (focus (first | (simp; done) | (simp; omega) | omega))) | ((with_reducible refine Below.alloc ?_ ?_ _); rotate_left; (focus (first | (simp; done) | (simp; omega) | omega))) | ((with_reducible apply below_step1); (focus (with_reducible assumption)))))⟩
          have tk8 : (t'.op == 8) = false := by simpa using hk
          have hk8 := Lib.hid hk
          clear hk
          by_cases hk : t'.op = 9
          · have tk : (t'.op == 9) = true := by simpa using hk
            have HR := Lib.hid (show ve = textV t'.op va vb by rw [HE.out, if_neg (by omega), if_neg (by omega), opV, if_neg (by omega), if_pos (by omega)])
            clear hk
            go_wp2_with (go_at_call 50; refine (ofText_c t'.op va vb _ (by omega) (by omega)).mono ?_; rintro e w1 ⟨rfl, hb1⟩; obtain ⟨hc1, hf1⟩ := bcell hb1; have hz1 := (hb1).size; (try simp at hz1); have hl10 : w.heap.size < w1.heap.size := (by omega))
            refine bodyPost_ret (by simp [results, Tryz.results32, go_sem, *]; rfl) rfl ?_
            unfold EvPost
            rw [HR.out, ← HPE.out]
            exact ⟨rfl, by (repeat (first | (with_reducible exact Below.refl _ _) | (with_reducible assumption) | (with_reducible refine Below.drew ?_) | (with_reducible refine below_drewN ?_ _) | ((with_reducible refine Below.setCell ?_ ?_ _); rotate_left; (focus (first | (simp; done) | (simp; omega) | omega))) | ((with_reducible refine Below.alloc ?_ ?_ _); rotate_left; (focus (first | (simp; done) | (simp; omega) | omega))) | ((with_reducible apply below_step1); (focus (with_reducible assumption)))))⟩
          have tk9 : (t'.op == 9) = false := by simpa using hk
          have hk9 := Lib.hid hk
          clear hk
          by_cases hk : t'.op = 10
          · have tk : (t'.op == 10) = true := by simpa using hk
            have HR := Lib.hid (show ve = textV t'.op va vb by rw [HE.out, if_neg (by omega), if_neg (by omega), opV, if_neg (by omega), if_pos (by omega)])
            clear hk
            go_wp2_with (go_at_call 50; refine (ofText_c t'.op va vb _ (by omega) (by omega)).mono ?_; rintro e w1 ⟨rfl, hb1⟩; obtain ⟨hc1, hf1⟩ := bcell hb1; have hz1 := (hb1).size; (try simp at hz1); have hl10 : w.heap.size < w1.heap.size := (by omega))
            refine bodyPost_ret (by simp [results, Tryz.results32, go_sem, *]; rfl) rfl ?_
            unfold EvPost
            rw [HR.out, ← HPE.out]
            exact ⟨rfl, by (repeat (first | (with_reducible exact Below.refl _ _) | (with_reducible assumption) | (with_reducible refine Below.drew ?_) | (with_reducible refine below_drewN ?_ _) | ((with_reducible refine Below.setCell ?_ ?_ _); rotate_left; (focus (first | (simp; done) | (simp; omega) | omega))) | ((with_reducible refine Below.alloc ?_ ?_ _); rotate_left; (focus (first | (simp; done) | (simp; omega) | omega))) | ((with_reducible apply below_step1); (focus (with_reducible assumption)))))⟩
          have tk10 : (t'.op == 10) = false := by simpa using hk
          have hk10 := Lib.hid hk
          clear hk
          by_cases hk : t'.op = 11
          · have tk : (t'.op == 11) = true := by simpa using hk
            have HR := Lib.hid (show ve = compV t'.op va vb by rw [HE.out, if_neg (by omega), if_neg (by omega), opV, if_neg (by omega), if_neg (by omega), if_pos (by omega)])
            clear hk
            go_wp2_with (go_at_call 51; refine (compare_c t'.op va vb _).mono ?_; rintro e w1 ⟨rfl, hb1⟩; obtain ⟨hc1, hf1⟩ := bcell hb1; have hz1 := (hb1).size; (try simp at hz1); have hl10 : w.heap.size < w1.heap.size := (by omega))
            refine bodyPost_ret (by simp [results, Tryz.results32, go_sem, *]; rfl) rfl ?_
            unfold EvPost
            rw [HR.out, ← HPE.out]
            exact ⟨rfl, by (repeat (first | (with_reducible exact Below.refl _ _) | (with_reducible assumption) | (with_reducible refine Below.drew ?_) | (with_reducible refine below_drewN ?_ _) | ((with_reducible refine Below.setCell ?_ ?_ _); rotate_left; (focus (first | (simp; done) | (simp; omega) | omega))) | ((with_reducible refine Below.alloc ?_ ?_ _); rotate_left; (focus (first | (simp; done) | (simp; omega) | omega))) | ((with_reducible apply below_step1); (focus (with_reducible assumption)))))⟩
          have tk11 : (t'.op == 11) = false := by simpa using hk
          have hk11 := Lib.hid hk
          clear hk
          by_cases hk : t'.op = 12
          · have tk : (t'.op == 12) = true := by simpa using hk
            have HR := Lib.hid (show ve = compV t'.op va vb by rw [HE.out, if_neg (by omega), if_neg (by omega), opV, if_neg (by omega), if_neg (by omega), if_pos (by omega)])
            clear hk
            go_wp2_with (go_at_call 51; refine (compare_c t'.op va vb _).mono ?_; rintro e w1 ⟨rfl, hb1⟩; obtain ⟨hc1, hf1⟩ := bcell hb1; have hz1 := (hb1).size; (try simp at hz1); have hl10 : w.heap.size < w1.heap.size := (by omega))
            refine bodyPost_ret (by simp [results, Tryz.results32, go_sem, *]; rfl) rfl ?_
            unfold EvPost
            rw [HR.out, ← HPE.out]
            exact ⟨rfl, by (repeat (first | (with_reducible exact Below.refl _ _) | (with_reducible assumption) | (with_reducible refine Below.drew ?_) | (with_reducible refine below_drewN ?_ _) | ((with_reducible refine Below.setCell ?_ ?_ _); rotate_left; (focus (first | (simp; done) | (simp; omega) | omega))) | ((with_reducible refine Below.alloc ?_ ?_ _); rotate_left; (focus (first | (simp; done) | (simp; omega) | omega))) | ((with_reducible apply below_step1); (focus (with_reducible assumption)))))⟩
          have tk12 : (t'.op == 12) = false := by simpa using hk
          have hk12 := Lib.hid hk
          clear hk
          by_cases hk : t'.op = 3
          · have tk : (t'.op == 3) = true := by simpa using hk
            have HR := Lib.hid (show ve = numsV t'.op va va by rw [HE.out, if_neg (by omega), if_neg (by omega), opV, if_neg (by omega), if_neg (by omega), if_neg (by omega), if_pos (by omega)])
            clear hk
            go_wp2_with (go_at_call 52; refine (ofNumbers_c t'.op va va _ na na).mono ?_; rintro e w1 ⟨rfl, hb1⟩; obtain ⟨hc1, hf1⟩ := bcell hb1; have hz1 := (hb1).size; (try simp at hz1); have hl10 : w.heap.size < w1.heap.size := (by omega))
            refine bodyPost_ret (by simp [results, Tryz.results32, go_sem, *]; rfl) rfl ?_
            unfold EvPost
            rw [HR.out, ← HPE.out]
            exact ⟨rfl, by (repeat (first | (with_reducible exact Below.refl _ _) | (with_reducible assumption) | (with_reducible refine Below.drew ?_) | (with_reducible refine below_drewN ?_ _) | ((with_reducible refine Below.setCell ?_ ?_ _); rotate_left; (focus (first | (simp; done) | (simp; omega) | omega))) | ((with_reducible refine Below.alloc ?_ ?_ _); rotate_left; (focus (first | (simp; done) | (simp; omega) | omega))) | ((with_reducible apply below_step1); (focus (with_reducible assumption)))))⟩
          have tk3 : (t'.op == 3) = false := by simpa using hk
          have hk3 := Lib.hid hk
          clear hk
          by_cases hk : t'.op = 13
          · have tk : (t'.op == 13) = true := by simpa using hk
            have HR := Lib.hid (show ve = numsV t'.op va va by rw [HE.out, if_neg (by omega), if_neg (by omega), opV, if_neg (by omega), if_neg (by omega), if_neg (by omega), if_pos (by omega)])
            clear hk
            go_wp2_with (go_at_call 52; refine (ofNumbers_c t'.op va va _ na na).mono ?_; rintro e w1 ⟨rfl, hb1⟩; obtain ⟨hc1, hf1⟩ := bcell hb1; have hz1 := (hb1).size; (try simp at hz1); have hl10 : w.heap.size < w1.heap.size := (by omega))
            refine bodyPost_ret (by simp [results, Tryz.results32, go_sem, *]; rfl) rfl ?_
            unfold EvPost
            rw [HR.out, ← HPE.out]
            exact ⟨rfl, by (repeat (first | (with_reducible exact Below.refl _ _) | (with_reducible assumption) | (with_reducible refine Below.drew ?_) | (with_reducible refine below_drewN ?_ _) | ((with_reducible refine Below.setCell ?_ ?_ _); rotate_left; (focus (first | (simp; done) | (simp; omega) | omega))) | ((with_reducible refine Below.alloc ?_ ?_ _); rotate_left; (focus (first | (simp; done) | (simp; omega) | omega))) | ((with_reducible apply below_step1); (focus (with_reducible assumption)))))⟩
          have tk13 : (t'.op == 13) = false := by simpa using hk
          have hk13 := Lib.hid hk
          clear hk
          have HR := Lib.hid (show ve = numsV t'.op va vb by
            have := hk1.out; have := hk2.out; have := hk14.out; have := hk15.out; have := hk16.out; have := hk17.out; have := hk18.out; have := hk8.out; have := hk9.out; have := hk10.out; have := hk11.out; have := hk12.out; have := hk3.out; have := hk13.out
            rw [HE.out, if_neg (by omega), if_neg (by omega), opV, if_neg (by omega), if_neg (by omega), if_neg (by omega), if_neg (by omega)])
          go_wp2_with (go_at_call 52; refine (ofNumbers_c t'.op va vb _ na nb).mono ?_; rintro e w1 ⟨rfl, hb1⟩; obtain ⟨hc1, hf1⟩ := bcell hb1; have hz1 := (hb1).size; (try simp at hz1); have hl10 : w.heap.size < w1.heap.size := (by omega))
          refine bodyPost_ret (by simp [results, Tryz.results32, go_sem, *]; rfl) rfl ?_
          unfold EvPost
          rw [HR.out, ← HPE.out]
          exact ⟨rfl, by (repeat (first | (with_reducible exact Below.refl _ _) | (with_reducible assumption) | (with_reducible refine Below.drew ?_) | (with_reducible refine below_drewN ?_ _) | ((with_reducible refine Below.setCell ?_ ?_ _); rotate_left; (focus (first | (simp; done) | (simp; omega) | omega))) | ((with_reducible refine Below.alloc ?_ ?_ _); rotate_left; (focus (first | (simp; done) | (simp; omega) | omega))) | ((with_reducible apply below_step1); (focus (with_reducible assumption)))))⟩
end Go.Proofs.YtojcabnjodfdmaaGreatDoor

namespace Go.Proofs.YtojcabnjodfdmaaGreatDoor
open Go.RowKit

theorem idle_Eval (w : World) : CallsD Tryz.prog 31 #[] .returning w fun e u' w' => e = .returned (.tuple #[]) ∧ u' = .returning ∧ w' = w := by
  refine callsD_of_wpS Tryz.func31 rfl fun c₀ cs hu => ?_
  apply wpS_region
  cases c₀
  simp_all [wpOpsS, go_sem, recoverD, Tryz.ntmps31, bodyPostS, results, Tryz.results31]
set_option maxRecDepth 100000 in
set_option maxHeartbeats 1000000 in
theorem xeval (A R : Option Addr) (n c m d : Nat) (es : List T) (row : List V) (w : World) (hn : n ≤ maxLen) (hm : m ≤ maxLen) (hr : RowT w w.heap.size A n es) (hv : Row w w.heap.size R m row) : Calls Tryz.prog 15 #[.slice A n c, .slice R m d] w fun e w' => e = .returned (.agg #[.int .i64 (evalE es row).k, .int .i64 (evalE es row).n, .string (evalE es row).s]) ∧ Below w.heap.size w w' := by
  have hmf : ∀ (fn : Fn) (first cap : Array Value) (w : World), (Instr.makeFunc fn first cap).run Tryz.prog w = .ok (.func fn first cap) w := fun _ _ _ _ => rfl
  have hr1 := (hr.keep (w' := w.alloc (.cells #[.int .i64 0, .int .i64 0, .string ⟨#[]⟩] 38)) fun p hp => World.cell?_alloc_lt w _ p hp).more (show w.heap.size ≤ (w.alloc (.cells #[.int .i64 0, .int .i64 0, .string ⟨#[]⟩] 38)).heap.size by simp)
  have hv1 := (hv.keep (w' := w.alloc (.cells #[.int .i64 0, .int .i64 0, .string ⟨#[]⟩] 38)) fun p hp => World.cell?_alloc_lt w _ p hp).more (show w.heap.size ≤ (w.alloc (.cells #[.int .i64 0, .int .i64 0, .string ⟨#[]⟩] 38)).heap.size by simp)
  have hvd := xvalidE A n c es (w.alloc (.cells #[.int .i64 0, .int .i64 0, .string ⟨#[]⟩] 38)) hn hr1
  cases hval : validE es
  · rw [hval] at hvd
    have HR := Lib.hid (show evalE es row = V.null by unfold evalE; rw [treeE_bad hval])
    clear hval
    go_enter_defers Tryz.func15, Tryz.ntmps15
    go_wp2_with (go_at_call 11; refine hvd.mono ?_; rintro e w1 ⟨rfl, hb1⟩; obtain ⟨hc1, hf1⟩ := bcell hb1; have hz1 := (hb1).size; (try simp at hz1); have hl10 : w.heap.size < w1.heap.size := (by omega))
    refine leave_idle idle_Eval (by simp [go_sem]) (by simp [results, Tryz.results15, go_sem, *]; rfl) ?_
    rw [HR.out]
    exact ⟨rfl, by (repeat (first | (with_reducible exact Below.refl _ _) | (with_reducible assumption) | (with_reducible refine Below.drew ?_) | (with_reducible refine below_drewN ?_ _) | ((with_reducible refine Below.setCell ?_ ?_ _); rotate_left; (focus (first | (simp; done) | (simp; omega) | omega))) | ((with_reducible refine Below.alloc ?_ ?_ _); rotate_left; (focus (first | (simp; done) | (simp; omega) | omega))) | ((with_reducible apply below_step1); (focus (with_reducible assumption)))))⟩
  · rw [hval] at hvd
    obtain ⟨x, hx, hfl, hw, hd, hl⟩ := treeE_ok hval
    have hl2 := hr.len
    have HR := Lib.hid (show evalE es row = x.ev row by unfold evalE; rw [hx])
    have hev := fun w1 hr1 hv1 => evalAt_c A R n c m d es row (by omega) hm 16 x [] 0 w1 hd hw (by simpa using hfl) hr1 hv1
    clear hval hx hfl hw hd hl hl2
    go_enter_defers Tryz.func15, Tryz.ntmps15
    go_wp2_with (first
      | (go_at_call 11; refine hvd.mono ?_; rintro e w1 ⟨rfl, hb1⟩; obtain ⟨hc1, hf1⟩ := bcell hb1; have hz1 := (hb1).size; (try simp at hz1); have hl10 : w.heap.size < w1.heap.size := (by omega))
      | (go_at_call 32; refine (hev w1 ((hr1.below hb1).more hb1.size) ((hv1.below hb1).more hb1.size)).mono ?_; rintro e w2 ⟨rfl, hb2⟩; obtain ⟨hc2, hf2⟩ := bcell hb2; have hz2 := (hb2).size; (try simp at hz2); have hl20 : w.heap.size < w2.heap.size := (by omega)))
    refine leave_idle idle_Eval (by simp [go_sem]) (by simp [results, Tryz.results15, go_sem, *]; rfl) ?_
    rw [HR.out]
    exact ⟨rfl, by (repeat (first | (with_reducible exact Below.refl _ _) | (with_reducible assumption) | (with_reducible refine Below.drew ?_) | (with_reducible refine below_drewN ?_ _) | ((with_reducible refine Below.setCell ?_ ?_ _); rotate_left; (focus (first | (simp; done) | (simp; omega) | omega))) | ((with_reducible refine Below.alloc ?_ ?_ _); rotate_left; (focus (first | (simp; done) | (simp; omega) | omega))) | ((with_reducible apply below_step1); (focus (with_reducible assumption)))))⟩
end Go.Proofs.YtojcabnjodfdmaaGreatDoor

namespace Go.Proofs.YtojcabnjodfdmaaGreatDoor
open Go.RowKit

theorem wpList_buildTo {P : Program} {ops : Array Oper} {rest : List Oper} {o : Oper} {a : Act} {w : World} {Q : Exit → Act → World → Prop} (hg : o.guard = none) (t : TypeId) (parts : Array (Nat × Operand)) (ho : o.op = .build t parts) (cells : Array Value)
    (hc : P.built t (parts.map fun (i, x) => (i, a.eval x)).toList = some cells) (h : wpList P ops Q rest (a.put o.dst (.agg cells)) w) : wpList P ops Q (o :: rest) a w :=
  wpList_build hg t parts ho (by rw [hc]; rfl) (by rw [hc]; exact h)
def OpPost (w : World) (op : Int) (e : Ending) (w' : World) : Prop := e = .returned (.string ⟨(wordL op).toArray⟩) ∧ Below w.heap.size w w'
def opTbl : Array Value := #[Value.string ⟨#[]⟩, Value.string ⟨#[]⟩, Value.string ⟨#[]⟩] ++ (wordT.map fun l => Value.string ⟨List.toArray l⟩).toArray
theorem opTbl_at (k : Nat) (h1 : 3 ≤ k) (h2 : k ≤ 18) : opTbl[k]? = some (.string ⟨(wordL (k : Int)).toArray⟩) := by
  obtain rfl | rfl | rfl | rfl | rfl | rfl | rfl | rfl | rfl | rfl | rfl | rfl | rfl | rfl | rfl | rfl : k = 3 ∨ k = 4 ∨ k = 5 ∨ k = 6 ∨ k = 7 ∨ k = 8 ∨ k = 9 ∨ k = 10 ∨ k = 11 ∨ k = 12 ∨ k = 13 ∨ k = 14 ∨ k = 15 ∨ k = 16 ∨ k = 17 ∨ k = 18 := by omega
  all_goals rfl
set_option maxRecDepth 100000 in
set_option maxHeartbeats 1000000 in
theorem opName_c (op : Int) (w : World) (h1 : 3 ≤ op) (h2 : op ≤ 18) : Calls Tryz.prog 76 #[.int .i64 op] w (OpPost w op) := by
  obtain ⟨k, rfl⟩ := Int.eq_ofNat_of_zero_le (show 0 ≤ op by omega)
  have hk := opTbl_at k (by omega) (by omega)
  have hk0 : (0 : Int) ≤ (k : Int) := by omega
  have hk19 : (k : Int) < 19 := by omega
  unfold OpPost
  generalize (⟨(wordL (k : Int)).toArray⟩ : ByteArray) = s at hk
  go_enter Tryz.func76, Tryz.ntmps76
  go_wp2_with (first
    | (refine wpList_buildTo rfl _ _ rfl opTbl (by as_aux_lemma => kernel_rfl) ?_)
    | (refine wpList_store_row rfl 113 (.tmp 3) (.tmp 4) rfl w.heap.size opTbl rfl rfl 113 _ (heap_alloc_new w _) (by as_aux_lemma => kernel_rfl) (by as_aux_lemma => kernel_rfl) (by as_aux_lemma => kernel_rfl) ?_
       have hcW := (cell_setRow_same _ w.heap.size k _ opTbl _ _ (heap_alloc_new w (.cells #[.string ⟨#[]⟩, .string ⟨#[]⟩, .string ⟨#[]⟩, .string ⟨#[]⟩, .string ⟨#[]⟩, .string ⟨#[]⟩, .string ⟨#[]⟩, .string ⟨#[]⟩, .string ⟨#[]⟩, .string ⟨#[]⟩, .string ⟨#[]⟩, .string ⟨#[]⟩, .string ⟨#[]⟩, .string ⟨#[]⟩, .string ⟨#[]⟩, .string ⟨#[]⟩, .string ⟨#[]⟩, .string ⟨#[]⟩, .string ⟨#[]⟩] 113))).trans hk
       have hbW := below_setRow ((Below.refl w.heap.size w).alloc (Nat.le_refl _) (.cells #[.string ⟨#[]⟩, .string ⟨#[]⟩, .string ⟨#[]⟩, .string ⟨#[]⟩, .string ⟨#[]⟩, .string ⟨#[]⟩, .string ⟨#[]⟩, .string ⟨#[]⟩, .string ⟨#[]⟩, .string ⟨#[]⟩, .string ⟨#[]⟩, .string ⟨#[]⟩, .string ⟨#[]⟩, .string ⟨#[]⟩, .string ⟨#[]⟩, .string ⟨#[]⟩, .string ⟨#[]⟩, .string ⟨#[]⟩, .string ⟨#[]⟩] 113)) (Nat.le_refl _) opTbl
       generalize World.setRow _ _ _ = W at hcW hbW ⊢))
  go_ret
  exact ⟨rfl, by (repeat (first | (with_reducible exact Below.refl _ _) | (with_reducible assumption) | (with_reducible refine Below.drew ?_) | (with_reducible refine below_drewN ?_ _) | ((with_reducible refine Below.setCell ?_ ?_ _); rotate_left; (focus (first | (simp; done) | (simp; omega) | omega))) | ((with_reducible refine Below.alloc ?_ ?_ _); rotate_left; (focus (first | (simp; done) | (simp; omega) | omega))) | ((with_reducible apply below_step1); (focus (with_reducible assumption)))))⟩
end Go.Proofs.YtojcabnjodfdmaaGreatDoor

namespace Go.Proofs.YtojcabnjodfdmaaGreatDoor
open Go.RowKit

theorem fmtV_len (v : V) : (fmtV v).length ≤ 100 := by
  obtain ⟨b1, b2, b3⟩ := cl_bounds v
  unfold fmtV
  split
  · have := Lib.itoa_length_le v.cl.n (by omega) (by omega)
    omega
  · split
    · have := flat_len v.cl.s.data.toList
      rw [← Lib.size_eq] at this
      unfold quoteL
      simp only [List.length_append, List.length_cons, List.length_nil]
      omega
    · simp
theorem joinL_cons_len (a : List UInt8) (l : List (List UInt8)) : (joinL (a :: l)).length ≤ a.length + 2 + (joinL l).length := by
  cases l with
  | nil => simp [joinL]
  | cons b l => simp [joinL]; omega
theorem wordL_len (op : Int) : (wordL op).length ≤ 8 := by
  unfold wordL
  generalize (op - 3).toNat = k
  rcases Nat.lt_or_ge k 16 with h | h
  · have : ∀ k, k < 16 → (wordT.getD k []).length ≤ 8 := by decide
    exact this k h
  · rw [List.getD_eq_getElem?_getD, List.getElem?_eq_none (by simpa [wordT] using h)]
    simp
theorem names_len {names : List ByteArray} (hN : ∀ s ∈ names, s.size ≤ 100) (k : Nat) : (names.getD k ⟨#[]⟩).data.toList.length ≤ 100 := by
  rw [List.getD_eq_getElem?_getD]
  cases h : names[k]? with
  | none => simp
  | some s =>
    have := hN s (List.mem_of_getElem? h)
    rw [Lib.size_eq] at this
    simpa using this
mutual
theorem fmt_len {names : List ByteArray} (hN : ∀ s ∈ names, s.size ≤ 100) (x : X) : (x.fmt names).length + 2 ≤ 200 * x.flat.length := by
  match x with
  | .node t ks =>
    have h := fmts_sum hN ks
    rw [X.flat_node, List.length_cons, X.fmt, termF]
    split
    · have := fmtV_len t.v; omega
    · split
      · split
        · have := names_len hN t.c.toNat; omega
        · simp; omega
      · have := wordL_len t.op
        simp only [List.length_append, List.length_cons, List.length_nil]
        omega
theorem fmts_sum {names : List ByteArray} (hN : ∀ s ∈ names, s.size ≤ 100) (xs : List X) : (joinL (fmts names xs)).length ≤ 200 * (flats xs).length := by
  match xs with
  | [] => simp [fmts, joinL]
  | x :: xs =>
    have h1 := fmt_len hN x
    have h2 := fmts_sum hN xs
    have h3 := joinL_cons_len (x.fmt names) (fmts names xs)
    rw [fmts, flats_cons, List.length_append]
    omega
end
theorem join_joinL : ∀ l : List (List UInt8), Lib.join l [44, 32] = joinL l := by
  intro l
  induction l with
  | nil => rfl
  | cons a l ih =>
    cases l with
    | nil => rw [Lib.join_one]; rfl
    | cons b l =>
      rw [joinL, ← ih, Lib.join_cons, Lib.join_cons, Lib.joinTail]
      simp [Lib.joinTail]
abbrev RowS := @RowOf ByteArray (fun s => [Value.string s])
theorem RowS.at1 {w : World} {B n : Nat} {A : Option Addr} {ss : List ByteArray} (h : RowS w B A n ss) {k : Nat} (hk : k < n) :
   ∃ b off s, A = some ⟨b, off, none⟩ ∧ b < B ∧ ss[k]? = some s ∧ w.cell? ⟨b, off + k, none⟩ = some (.string s) := by
  obtain ⟨b, off, s, h1, h2, h3, h4⟩ := h.at_ 1 (fun _ => rfl) (by omega) hk
  have := h4 0 _ rfl
  rw [Nat.mul_one] at this
  exact ⟨b, off, s, h1, h2, h3, this⟩
def FmPost (w : World) (l : List UInt8) (k : Nat) (e : Ending) (w' : World) : Prop := e = .returned (.tuple #[.string ⟨l.toArray⟩, .int .i64 (k : Int)]) ∧ Below w.heap.size w w'
/-- The j-th of the first i operands' texts. -/
def fmAt (names : List ByteArray) (ks : List X) (i j : Nat) : ByteArray := ⟨((fmts names (ks.take i)).getD j []).toArray⟩
theorem fmAt_zero (names : List ByteArray) (ks : List X) (j : Nat) : fmAt names ks 0 j = ⟨#[]⟩ := by simp [fmAt, fmts]
theorem getD_snocL (l : List (List UInt8)) (v : List UInt8) (j : Nat) : (l ++ [v]).getD j [] = if j = l.length then v else l.getD j [] := by
  simp only [List.getD_eq_getElem?_getD]
  split
  · rename_i h; subst h; simp
  · rename_i h
    rcases Nat.lt_or_ge j l.length with h1 | h1
    · rw [List.getElem?_append_left h1]
    · rw [List.getElem?_append_right h1, List.getElem?_eq_none (l := l) h1, List.getElem?_eq_none (by simp; omega)]
theorem fmAt_succ {names : List ByteArray} {ks : List X} {i : Nat} {k : X} (h : ks[i]? = some k) (j : Nat) : fmAt names ks (i + 1) j = if j = i then ⟨(k.fmt names).toArray⟩ else fmAt names ks i j := by
  have hl : i < ks.length := (List.getElem?_eq_some_iff.1 h).1
  unfold fmAt
  rw [List.take_add_one, h]
  simp only [Option.toList_some]
  rw [fmts_snoc, getD_snocL, fmts_len, List.length_take, Nat.min_eq_left (by omega)]
  split <;> rfl
theorem fmAt_all (names : List ByteArray) (ks : List X) (j : Nat) : fmAt names ks ks.length j = ⟨((fmts names ks).getD j []).toArray⟩ := by simp [fmAt]
def emptyStrs (k : Nat) : Array Value := madeCells #[.string ⟨#[]⟩] k
theorem emptyStrs_at {k j : Nat} (h : j < k) : (emptyStrs k)[j]? = some (.string ⟨#[]⟩) := by
  have h1 : (emptyStrs k).toList[j]? = some (.string ⟨#[]⟩) := by
    unfold emptyStrs
    rw [toList_madeCells_one]
    simp [h]
  simpa using h1
theorem makeStrs (k : Nat) (hk : k ≤ 1000) (w : World) : (Instr.makeSlice 62 (.int .i64 (k : Int)) (.int .i64 (k : Int))).run Tryz.prog w = .ok (.slice (some ⟨w.heap.size, 0, none⟩) k k) (w.alloc (.cells (emptyStrs k) 9)) := by
  obtain ⟨i, h0, h1, h2, h3⟩ := info_parts (P := Tryz.prog) (e := 9) (z := .string ⟨#[]⟩) (size := 1) (bytes := 16) (by kernel_rfl)
  have := run_make (P := Tryz.prog) w 62 9 i (.string ⟨#[]⟩) Tryz.underlying62 h0 h1 .i64 .i64 (k : Int) (k : Int) (by omega) (by omega) (by rw [h3]; omega) (by omega)
  rw [h2, Int.toNat_natCast, Nat.mul_one] at this
  exact this
structure Fm3 (w wr : World) (t : T) (names : List ByteArray) (ks : List X) (i : Nat) : Prop where
  bel : Below w.heap.size w wr
  sz : w.heap.size + 2 ≤ wr.heap.size
  fr : ∀ j, wr.frozen? ⟨w.heap.size + 1, j, none⟩ = false
  t0 : wr.cell? ⟨w.heap.size, 0, none⟩ = some (.int .i64 t.op)
  o : ∀ j, j < ks.length → wr.cell? ⟨w.heap.size + 1, j, none⟩ = some (.string (fmAt names ks i j))
def FmRel (w : World) (t : T) (names : List ByteArray) (ks : List X) (pos : Nat) (v9 v54 : Value) (wr : World) : Prop := ∃ i p : Nat, i ≤ ks.length ∧ v54 = .int .i64 i ∧ v9 = .int .i64 (p : Int) ∧ p = pos + 1 + (flats (ks.take i)).length ∧ Fm3 w wr t names ks i
set_option maxRecDepth 100000 in
set_option maxHeartbeats 8000000 in
theorem formatAt_c (A R : Option Addr) (n c m d : Nat) (es : List T) (names : List ByteArray) (hn : n ≤ 1000) (_hm : m ≤ maxLen) (hN : ∀ s ∈ names, s.size ≤ 100) : ∀ (f : Nat) (x : X) (r : List T) (pos : Nat) (w : World), x.depth ≤ f → x.wf = true → es.drop pos = x.flat ++ r → G w → RowT w w.heap.size A n es → RowS w w.heap.size R m names → Calls Tryz.prog 55 #[.slice A n c, .int .i64 (pos : Int), .slice R m d] w (FmPost w (x.fmt names) (pos + x.flat.length)) := by
  intro f
  induction f with
  | zero => intro x r pos w hd; have := x.depth_pos; omega
  | succ f ih =>
    intro x r pos w hd hw hx hG hr hv
    obtain ⟨t, ks⟩ := x
    have hlen := congrArg List.length hx
    rw [List.length_drop, X.flat_node, List.length_append, List.length_cons, hr.len] at hlen
    have hlt : pos < n := by omega
    obtain ⟨b, off, t', rfl, hb, ht, c0, c1, c2, c3, c4⟩ := RowT.at5 hr hlt
    have htt : t' = t := by
      have h2 := drop_term ht
      rw [hx, X.flat_node, List.cons_append] at h2
      injection h2 with h2 _
      exact h2.symm
    subst htt
    have hp0 : (0 : Int) ≤ (pos : Int) := by omega
    have hp1 : (pos : Int) < (n : Int) := by omega
    have hpw : IntKind.i64.wrap ((pos : Int) + 1) = (pos : Int) + 1 := IntWalk.i64_in _ (by omega)
    have hw2 := hw
    simp only [X.wf, Bool.and_eq_true, decide_eq_true_eq] at hw2
    obtain ⟨hok, hkl, hkw⟩ := hw2
    have hak : 0 ≤ arity t'.op := by
      rw [T.ok_fok, Bool.and_eq_true, decide_eq_true_eq] at hok
      exact hok.1
    have hop := arity_known hak
    have HN := Lib.hid (show arity t'.op = (ks.length : Int) by rw [hkl]; unfold ar; omega)
    have har := arity_range t'.op
    have hk3 : ks.length ≤ 3 := by have := HN.out; omega
    simp only [X.depth] at hd
    have HX := Lib.hid hx
    have HK := Lib.hid hok
    have HW := Lib.hid hkw
    have HFL := Lib.hid hlen
    have HP := Lib.hid (show pos + (X.node t' ks).flat.length = pos + 1 + (flats ks).length by rw [X.flat_node, List.length_cons]; omega)
    have HE := Lib.hid (show (X.node t' ks).fmt names = termF names t' (fmts names ks) by rw [X.fmt])
    generalize pos + (X.node t' ks).flat.length = pe at HP
    generalize (X.node t' ks).fmt names = ve at HE
    have hks0 : (t'.op = 1 ∨ t'.op = 2) → ks = [] := fun h => by
      have h0 : arity t'.op = 0 := by unfold arity; rw [if_pos h]
      have := HN.out
      exact List.eq_nil_of_length_eq_zero (by omega)
    have HKS := Lib.hid hks0
    clear ht hx hok hkw hw hkl hlen hks0
    by_cases h1 : t'.op = 1
    · have t1 : (t'.op == 1) = true := by simpa using h1
      have HR := Lib.hid (show ve = fmtV t'.v by rw [HE.out, termF, if_pos h1])
      have HQ := Lib.hid (show pe = pos + 1 by rw [HP.out, HKS.out (.inl h1)]; rfl)
      clear h1
      go_enter Tryz.func55, Tryz.ntmps55
      go_wp2_with (go_at_call 75; refine (vformat t'.v _ (by exact hG.below (by (repeat (first | (with_reducible exact Below.refl _ _) | (with_reducible assumption) | (with_reducible refine Below.drew ?_) | (with_reducible refine below_drewN ?_ _) | ((with_reducible refine Below.setCell ?_ ?_ _); rotate_left; (focus (first | (simp; done) | (simp; omega) | omega))) | ((with_reducible refine Below.alloc ?_ ?_ _); rotate_left; (focus (first | (simp; done) | (simp; omega) | omega))) | ((with_reducible apply below_step1); (focus (with_reducible assumption)))))))).mono ?_; rintro e w1 ⟨rfl, hb1⟩; obtain ⟨hc1, hf1⟩ := bcell hb1; have hz1 := (hb1).size; (try simp at hz1); have hl10 : w.heap.size < w1.heap.size := (by omega))
      refine bodyPost_ret (by simp [results, Tryz.results55, go_sem, *]; rfl) rfl ?_
      unfold FmPost
      rw [HR.out, HQ.out]
      exact ⟨by go_num, by (repeat (first | (with_reducible exact Below.refl _ _) | (with_reducible assumption) | (with_reducible refine Below.drew ?_) | (with_reducible refine below_drewN ?_ _) | ((with_reducible refine Below.setCell ?_ ?_ _); rotate_left; (focus (first | (simp; done) | (simp; omega) | omega))) | ((with_reducible refine Below.alloc ?_ ?_ _); rotate_left; (focus (first | (simp; done) | (simp; omega) | omega))) | ((with_reducible apply below_step1); (focus (with_reducible assumption)))))⟩
    have t1 : (t'.op == 1) = false := by simpa using h1
    by_cases h2 : t'.op = 2
    · have t2 : (t'.op == 2) = true := by simpa using h2
      have hc0 := (term_col HK.out h2).1
      have HQ := Lib.hid (show pe = pos + 1 by rw [HP.out, HKS.out (.inr h2)]; rfl)
      by_cases hc : t'.c < (m : Int)
      · obtain ⟨i, hi⟩ := Int.eq_ofNat_of_zero_le hc0
        obtain ⟨b2, off2, s, rfl, hb2, hs, hcell⟩ := RowS.at1 hv (show i < m by omega)
        have hl2 := hv.len
        have HR := Lib.hid (show ve = s.data.toList by
          rw [HE.out, termF, if_neg h1, if_pos h2, if_pos (by omega), hi]
          simp [hs])
        rw [hi] at c4 hc hc0
        clear h1 h2 hs hl2
        go_enter Tryz.func55, Tryz.ntmps55
        go_wp2_with fail
        refine bodyPost_ret (by simp [results, Tryz.results55, go_sem, *]; rfl) rfl ?_
        unfold FmPost
        rw [HR.out, HQ.out]
        exact ⟨by go_num, by (repeat (first | (with_reducible exact Below.refl _ _) | (with_reducible assumption) | (with_reducible refine Below.drew ?_) | (with_reducible refine below_drewN ?_ _) | ((with_reducible refine Below.setCell ?_ ?_ _); rotate_left; (focus (first | (simp; done) | (simp; omega) | omega))) | ((with_reducible refine Below.alloc ?_ ?_ _); rotate_left; (focus (first | (simp; done) | (simp; omega) | omega))) | ((with_reducible apply below_step1); (focus (with_reducible assumption)))))⟩
      · have hl2 := hv.len
        have HR := Lib.hid (show ve = [63] by rw [HE.out, termF, if_neg h1, if_pos h2, if_neg (by omega)])
        clear h1 h2 hl2
        go_enter Tryz.func55, Tryz.ntmps55
        go_wp2_with fail
        refine bodyPost_ret (by simp [results, Tryz.results55, go_sem, *]; rfl) rfl ?_
        unfold FmPost
        rw [HR.out, HQ.out]
        exact ⟨by go_num, by (repeat (first | (with_reducible exact Below.refl _ _) | (with_reducible assumption) | (with_reducible refine Below.drew ?_) | (with_reducible refine below_drewN ?_ _) | ((with_reducible refine Below.setCell ?_ ?_ _); rotate_left; (focus (first | (simp; done) | (simp; omega) | omega))) | ((with_reducible refine Below.alloc ?_ ?_ _); rotate_left; (focus (first | (simp; done) | (simp; omega) | omega))) | ((with_reducible apply below_step1); (focus (with_reducible assumption)))))⟩
    have t2 : (t'.op == 2) = false := by simpa using h2
    have HR := Lib.hid (show ve = wordL t'.op ++ [40] ++ joinL (fmts names ks) ++ [41] by rw [HE.out, termF, if_neg h1, if_neg h2])
    have hop3 : 3 ≤ t'.op := by omega
    have hop18 := hop.2
    clear h1 h2 hop HE
    have hmake := makeStrs ks.length (by omega)
    go_enter Tryz.func55, Tryz.ntmps55
    go_wp2_with (go_at_call 42; refine (xarity t'.op _).mono ?_; rintro e w1 ⟨rfl, rfl⟩; rw [HN.out])
    go_loopw [9, 54] (fun v9 v54 wr => FmRel w t' names ks pos v9 v54 wr) (fun _ v54 _ => ks.length - (intOf v54).toNat)
    case atStart =>
      refine ⟨0, pos + 1, Nat.zero_le _, rfl, by go_num, by simp [flats], ?_⟩
      constructor
      · (repeat (first | (with_reducible exact Below.refl _ _) | (with_reducible assumption) | (with_reducible refine Below.drew ?_) | (with_reducible refine below_drewN ?_ _) | ((with_reducible refine Below.setCell ?_ ?_ _); rotate_left; (focus (first | (simp; done) | (simp; omega) | omega))) | ((with_reducible refine Below.alloc ?_ ?_ _); rotate_left; (focus (first | (simp; done) | (simp; omega) | omega))) | ((with_reducible apply below_step1); (focus (with_reducible assumption)))))
      · simp
      · intro j; simp [go_sem]
      · simp [go_sem]
      · intro j hj
        rw [fmAt_zero]
        simp [go_sem, emptyStrs_at hj]
    case round =>
      obtain ⟨i, p, hi, rfl, rfl, hp, h3⟩ := hrel
      obtain ⟨hbel, hsz, fr, t0, o⟩ := h3
      have hzz := hbel.size
      have hs0 : w.heap.size < wr.heap.size := by omega
      have hs1 : w.heap.size + 1 < wr.heap.size := by omega
      by_cases hlt2 : i < ks.length
      · have hia : (i : Int) < (ks.length : Int) := by omega
        have hki : ks[i]? = some ks[i] := List.getElem?_eq_getElem hlt2
        generalize ks[i] = k at hki
        obtain ⟨k1, k2, k3⟩ := kid_in hki
        have hka := kid_at HX.out hki
        rw [← hp] at hka
        have ihe := ih k _ p wr (by omega) (k2 HW.out) hka (hG.below hbel) ((hr.below hbel).more hzz) ((hv.below hbel).more hzz)
        have HS := Lib.hid (fmAt_succ (names := names) hki)
        have hbnd : p + k.flat.length ≤ 1000 := by
          have h2 := congrArg List.length hka
          rw [List.length_drop, List.length_append, hr.len] at h2
          have h4 := k.flat_pos
          omega
        have HP1 := Lib.hid (show p + k.flat.length = pos + 1 + (flats (ks.take (i + 1))).length by omega)
        generalize p + k.flat.length = p1 at ihe hbnd HP1
        generalize k.fmt names = kv at ihe HS
        have oi := o i hlt2
        have fri := fr i
        have HO := Lib.hid o
        have HFR := Lib.hid fr
        clear hka hki k1 k2 k3 hp hr hv ih o fr
        go_wp2_with (go_at_call 55; refine ihe.mono ?_; rintro e2 w2 ⟨rfl, hb2⟩; obtain ⟨hc2, hf2⟩ := bcell hb2; have hz2 := (hb2).size; (try simp at hz2); have hl20 : w.heap.size < w2.heap.size := (by omega); have hl21 : w.heap.size + 1 < w2.heap.size := (by omega))
        refine ⟨⟨i + 1, p1, by omega, by go_num, rfl, HP1.out, ?_⟩, by simp [intOf]; omega⟩
        constructor
        · (repeat (first | (with_reducible exact Below.refl _ _) | (with_reducible assumption) | (with_reducible refine Below.drew ?_) | (with_reducible refine below_drewN ?_ _) | ((with_reducible refine Below.setCell ?_ ?_ _); rotate_left; (focus (first | (simp; done) | (simp; omega) | omega))) | ((with_reducible refine Below.alloc ?_ ?_ _); rotate_left; (focus (first | (simp; done) | (simp; omega) | omega))) | ((with_reducible apply below_step1); (focus (with_reducible assumption)))))
        · simp; omega
        · intro j; simp [go_sem, hf2, hs1, HFR.out j]
        · simp [go_sem, hc2, hs0, t0]
        · intro j hj
          rw [HS.out j]
          split
          · rename_i h; subst h
            exact World.cell?_setCell_same _ _ _ ((hc2 _ _ hs1).trans oi)
          · rename_i h
            exact (World.cell?_setCell_other _ _ _ _ (fun e => h (congrArg Addr.off e).symm)).trans ((hc2 _ _ hs1).trans (HO.out j hj))
      · have hia : ¬ (i : Int) < (ks.length : Int) := by omega
        obtain rfl : i = ks.length := by omega
        rw [List.take_length] at hp
        have HPE := Lib.hid (show p = pe by rw [hp, HP.out])
        have hjl := fmts_sum hN ks
        have hwl := wordL_len t'.op
        have hfl : (flats ks).length ≤ 1000 := by have := HFL.out; omega
        have hJ : ∀ w1, Below wr.heap.size wr w1 → Calls Tryz.prog 77 #[.slice (some ⟨w.heap.size + 1, 0, none⟩) ks.length ks.length, .string ⟨#[44, 32]⟩] w1 fun e w' => e = .returned (.string ⟨(joinL (fmts names ks)).toArray⟩) ∧ Below w1.heap.size w1 w' := by
          intro w1 hb1
          have hjj : (((fmts names ks).map fun l => (⟨l.toArray⟩ : ByteArray)).map (·.data.toList)) = fmts names ks := by
            rw [List.map_map]; simp [Function.comp_def]
          have hjn := Tryz.strings_Join (w.heap.size + 1) 0 ks.length ((fmts names ks).map fun l => ⟨l.toArray⟩) ⟨#[44, 32]⟩ w1 (by
            intro j x hx
            rw [List.getElem?_map] at hx
            obtain ⟨l, hl, rfl⟩ := Option.map_eq_some_iff.1 hx
            have hjl : j < ks.length := by
              have := (List.getElem?_eq_some_iff.1 hl).1
              rwa [fmts_len] at this
            rw [Nat.zero_add]
            refine (hb1.cell (p := ⟨w.heap.size + 1, j, none⟩) hs1).trans ((o j hjl).trans ?_)
            rw [fmAt_all, List.getD_eq_getElem?_getD, hl]
            rfl) (by have := hb1.size; omega) (by rw [List.length_map, fmts_len]; omega) (by rw [List.length_map, fmts_len]; omega) (by rw [hjj]; show (Lib.join _ [44, 32]).length ≤ _; rw [join_joinL]; omega)
          rw [hjj, List.length_map, fmts_len] at hjn
          have e2 : Lib.join (fmts names ks) (⟨#[44, 32]⟩ : ByteArray).data.toList = joinL (fmts names ks) := join_joinL _
          rw [e2] at hjn
          exact hjn
        have hO := fun w => opName_c t'.op w hop3 hop18
        unfold OpPost at hO
        have HR2 := Lib.hid (show (⟨ve.toArray⟩ : ByteArray) = ⟨(wordL t'.op).toArray⟩ ++ ⟨#[40]⟩ ++ ⟨(joinL (fmts names ks)).toArray⟩ ++ ⟨#[41]⟩ by
          rw [HR.out]; simp [ByteArray.mk_append_mk])
        have z1 : (⟨(wordL t'.op).toArray⟩ : ByteArray).size ≤ 8 := by rw [Lib.size_eq]; simpa using hwl
        have z2 : (⟨(joinL (fmts names ks)).toArray⟩ : ByteArray).size ≤ 200000 := by rw [Lib.size_eq]; simp; omega
        generalize (⟨(wordL t'.op).toArray⟩ : ByteArray) = s1 at hO HR2 z1
        generalize (⟨(joinL (fmts names ks)).toArray⟩ : ByteArray) = s2 at hJ HR2 z2
        have a1 : ∀ w, (Op.stringOp .add s1 ⟨#[40]⟩).run Tryz.prog w = .ok (.string (s1 ++ ⟨#[40]⟩)) w := fun w => run_string_add_sum w _ _ (by show s1.size + 1 ≤ _; omega)
        have y1 : (s1 ++ ⟨#[40]⟩ : ByteArray).size ≤ 9 := by rw [ByteArray.size_append]; show s1.size + 1 ≤ _; omega
        have a2 : ∀ w, (Op.stringOp .add (s1 ++ ⟨#[40]⟩) s2).run Tryz.prog w = .ok (.string (s1 ++ ⟨#[40]⟩ ++ s2)) w := fun w => run_string_add_sum w _ _ (by omega)
        have y2 : (s1 ++ ⟨#[40]⟩ ++ s2 : ByteArray).size ≤ 300000 := by rw [ByteArray.size_append]; omega
        have a3 : ∀ w, (Op.stringOp .add (s1 ++ ⟨#[40]⟩ ++ s2) ⟨#[41]⟩).run Tryz.prog w = .ok (.string (s1 ++ ⟨#[40]⟩ ++ s2 ++ ⟨#[41]⟩)) w := fun w => run_string_add_sum w _ _ (by show _ + 1 ≤ _; omega)
        clear hp ih hlt2 o fr hr hv hjl hwl y1 y2 z1 z2
        go_wp2_with (first
          | (go_at_call 76; refine (hO _).mono ?_; rintro e1 w1 ⟨rfl, hb1⟩; obtain ⟨hc1, hf1⟩ := bcell hb1; have hz1 := (hb1).size; (try simp at hz1); have hl10 : w.heap.size < w1.heap.size := (by omega); have hl11 : w.heap.size + 1 < w1.heap.size := (by omega))
          | (go_at_call 77; refine (hJ _ hb1).mono ?_; rintro e1 w2 ⟨rfl, hb2⟩))
        refine bodyPost_ret (by simp [results, Tryz.results55, go_sem, *]; rfl) rfl ?_
        unfold FmPost
        rw [HR2.out, ← HPE.out]
        exact ⟨rfl, by (repeat (first | (with_reducible exact Below.refl _ _) | (with_reducible assumption) | (with_reducible refine Below.drew ?_) | (with_reducible refine below_drewN ?_ _) | ((with_reducible refine Below.setCell ?_ ?_ _); rotate_left; (focus (first | (simp; done) | (simp; omega) | omega))) | ((with_reducible refine Below.alloc ?_ ?_ _); rotate_left; (focus (first | (simp; done) | (simp; omega) | omega))) | ((with_reducible apply below_step1); (focus (with_reducible assumption)))))⟩

theorem idle_Format (w : World) : CallsD Tryz.prog 54 #[] .returning w fun e u' w' => e = .returned (.tuple #[]) ∧ u' = .returning ∧ w' = w := by
  refine callsD_of_wpS Tryz.func54 rfl fun c₀ cs hu => ?_
  apply wpS_region
  cases c₀
  simp_all [wpOpsS, go_sem, recoverD, Tryz.ntmps54, bodyPostS, results, Tryz.results54]
set_option maxRecDepth 100000 in
set_option maxHeartbeats 1000000 in
theorem xformat (A R : Option Addr) (n c m d : Nat) (es : List T) (names : List ByteArray) (w : World) (hn : n ≤ maxLen) (hm : m ≤ maxLen) (hN : ∀ s ∈ names, s.size ≤ 100) (hG : G w) (hr : RowT w w.heap.size A n es) (hv : RowS w w.heap.size R m names) : Calls Tryz.prog 35 #[.slice A n c, .slice R m d] w fun e w' => e = .returned (.string ⟨(formatE es names).toArray⟩) ∧ Below w.heap.size w w' := by
  have hmf : ∀ (fn : Fn) (first cap : Array Value) (w : World), (Instr.makeFunc fn first cap).run Tryz.prog w = .ok (.func fn first cap) w := fun _ _ _ _ => rfl
  have hvd := xvalidE A n c es w hn hr
  cases hval : validE es
  · rw [hval] at hvd
    have HR := Lib.hid (show formatE es names = [] by unfold formatE; rw [treeE_bad hval])
    clear hval
    go_enter_defers Tryz.func35, Tryz.ntmps35
    go_wp2_with (go_at_call 11; refine hvd.mono ?_; rintro e w1 ⟨rfl, hb1⟩)
    refine leave_idle idle_Format (by simp [go_sem]) (by simp [results, Tryz.results35, go_sem]; rfl) ?_
    rw [HR.out]
    exact ⟨rfl, by (repeat (first | (with_reducible exact Below.refl _ _) | (with_reducible assumption) | (with_reducible refine Below.drew ?_) | (with_reducible refine below_drewN ?_ _) | ((with_reducible refine Below.setCell ?_ ?_ _); rotate_left; (focus (first | (simp; done) | (simp; omega) | omega))) | ((with_reducible refine Below.alloc ?_ ?_ _); rotate_left; (focus (first | (simp; done) | (simp; omega) | omega))) | ((with_reducible apply below_step1); (focus (with_reducible assumption)))))⟩
  · rw [hval] at hvd
    obtain ⟨x, hx, hfl, hw, hd, hl⟩ := treeE_ok hval
    have hl2 := hr.len
    have HR := Lib.hid (show formatE es names = x.fmt names by unfold formatE; rw [hx])
    have hev := fun w1 hG1 hr1 hv1 => formatAt_c A R n c m d es names (by omega) hm hN 16 x [] 0 w1 hd hw (by simpa using hfl) hG1 hr1 hv1
    clear hval hx hfl hw hd hl hl2
    go_enter_defers Tryz.func35, Tryz.ntmps35
    go_wp2_with (first
      | (go_at_call 11; refine hvd.mono ?_; rintro e w1 ⟨rfl, hb1⟩)
      | (go_at_call 55; refine (hev w1 (hG.below hb1) ((hr.below hb1).more hb1.size) ((hv.below hb1).more hb1.size)).mono ?_; rintro e w2 ⟨rfl, hb2⟩))
    refine leave_idle idle_Format (by simp [go_sem]) (by simp [results, Tryz.results35, go_sem]; rfl) ?_
    rw [HR.out]
    exact ⟨rfl, by (repeat (first | (with_reducible exact Below.refl _ _) | (with_reducible assumption) | (with_reducible refine Below.drew ?_) | (with_reducible refine below_drewN ?_ _) | ((with_reducible refine Below.setCell ?_ ?_ _); rotate_left; (focus (first | (simp; done) | (simp; omega) | omega))) | ((with_reducible refine Below.alloc ?_ ?_ _); rotate_left; (focus (first | (simp; done) | (simp; omega) | omega))) | ((with_reducible apply below_step1); (focus (with_reducible assumption)))))⟩
end Go.Proofs.YtojcabnjodfdmaaGreatDoor

namespace Go.Proofs.YtojcabnjodfdmaaGreatDoor
open Go.RowKit Go.ChangeShapes Go.WideShapes Go.Deep

theorem exists_list {α : Type} {P : Nat → α → Prop} : ∀ n : Nat, (∀ i, i < n → ∃ v, P i v) → ∃ vs : List α, vs.length = n ∧ ∀ i v, vs[i]? = some v → P i v := by
  intro n
  induction n with
  | zero => intro _; exact ⟨[], rfl, fun i v h => by simp at h⟩
  | succ n ih =>
    intro h
    obtain ⟨vs, h1, h2⟩ := ih fun i hi => h i (by omega)
    obtain ⟨x, hx⟩ := h n (by omega)
    refine ⟨vs ++ [x], by simp [h1], fun i v hv => ?_⟩
    rcases Nat.lt_or_ge i n with hi | hi
    · rw [List.getElem?_append_left (by omega)] at hv
      exact h2 i v hv
    · rw [List.getElem?_append_right (by omega)] at hv
      have : i = n := by
        have := (List.getElem?_eq_some_iff.1 hv).1
        simp at this
        omega
      subst this
      rw [h1] at hv
      simp at hv
      subst hv
      exact hx
theorem cell_lt {w : World} {a : Addr} {u : Value} (h : w.cell? a = some u) : a.block < w.heap.size := by
  rcases Nat.lt_or_ge a.block w.heap.size with hl | hl
  · exact hl
  · simp [World.cell?, Array.getElem?_eq_none hl] at h

theorem addr_add (b off j : Nat) : (⟨b, off, none⟩ : Addr).add j = ⟨b, off + j, none⟩ := by
  unfold Addr.add
  split
  · subst_vars; rfl
  · simp
theorem list3 {α : Type} {l : List α} (h : l.length = 3) : ∃ a b c, l = [a, b, c] := by
  match l, h with
  | [a, b, c], _ => exact ⟨a, b, c, rfl⟩
theorem agg_cells {cs : Array Value} {v : V} (h : (Value.agg cs).cells.toList = v.cells) : cs = #[.int .i64 v.k, .int .i64 v.n, .string v.s] := by
  rw [← Array.toList_inj]
  exact h
theorem cellsV : Tryz.prog.cellsOf 38 = 3 := by kernel_rfl
theorem cellsInt : Tryz.prog.cellsOf 3 = 1 := by kernel_rfl
theorem cellsInt64 : Tryz.prog.cellsOf 2 = 1 := by kernel_rfl
theorem cellsStr : Tryz.prog.cellsOf 9 = 1 := by kernel_rfl
section
variable {H : Type} {enc : TypeId × Value → H} {w : World} {base : Nat} {spare : Nat → Bool} {held : Bool} {fuel : Nat}
theorem openV {cs : List Value} {x : DataW H × List MemPlace} (h : DataW.trod enc Tryz.prog w base spare held fuel 38 cs = some x) : ∃ v : V, cs = v.cells := by
  obtain ⟨ys, n, _, _, hl, hyl, hf⟩ := DataW.trod_struct Tryz.underlying38 h
  rw [cellsV] at hl
  obtain ⟨c0, c1, c2, rfl⟩ := list3 hl
  obtain ⟨y0, y1, y2, rfl⟩ := list3 (l := ys) hyl
  have h0 : DataW.trod enc Tryz.prog w base spare held n 3 [c0] = some y0 := by simpa [cellsInt] using hf 0 _ rfl
  have h1 : DataW.trod enc Tryz.prog w base spare held n 2 [c1] = some y1 := by simpa [cellsInt64] using hf 1 _ rfl
  have h2 : DataW.trod enc Tryz.prog w base spare held n 9 [c2] = some y2 := by simpa [cellsStr] using hf 2 _ rfl
  obtain ⟨k, e0, _⟩ := DataW.trod_int Tryz.underlying3 h0
  obtain ⟨m, e1, _⟩ := DataW.trod_int Tryz.underlying2 h1
  obtain ⟨s, e2, _⟩ := DataW.trod_string Tryz.underlying9 h2
  simp at e0 e1 e2
  subst e0 e1 e2
  exact ⟨⟨k, m, s⟩, rfl⟩
theorem open_rowV {A : Option Addr} {n c : Nat} {x : DataW H × List MemPlace} (h : DataW.trod enc Tryz.prog w base spare held fuel 31 [.slice A n c] = some x) : n ≤ maxLen ∧ ∃ vs, Row w w.heap.size A n vs := by
  rcases open_slice Tryz.underlying31 h with ⟨h0, _⟩ | ⟨a, len, cap, m, n', D, Pl, hcs, hb, hl, hm, hmm, _, hi⟩
  · simp at h0
    obtain ⟨rfl, rfl, rfl⟩ := h0
    exact ⟨Nat.zero_le _, [], RowOf.nil_⟩
  · simp at hcs
    obtain ⟨rfl, rfl, rfl⟩ := hcs
    refine ⟨by omega, ?_⟩
    have hnm : n ≤ m := by rw [hmm]; split <;> omega
    have h3 := cellsV
    obtain ⟨vs, hv1, hv2⟩ := exists_list (P := fun i v => ∀ j u, (V.cells v)[j]? = some u → w.cell? ((a.add (i * 3)).add j) = some u) n (fun i hin => by
      obtain ⟨cs', hc, ht⟩ := hi i (by omega)
      rw [h3] at hc
      obtain ⟨v, rfl⟩ := openV ht
      obtain ⟨_, hcl, hat⟩ := World.cells?_some hc
      exact ⟨v, fun j u hu => (hat j (show j < 3 from (List.getElem?_eq_some_iff.1 hu).1)).trans hu⟩)
    refine ⟨vs, hv1, fun hne => ?_⟩
    have hpos : 0 < n := by
      rcases Nat.eq_zero_or_pos n with h0 | h0
      · subst h0
        rw [List.eq_nil_of_length_eq_zero hv1] at hne
        exact absurd rfl hne
      · exact h0
    obtain ⟨b, off, spot⟩ := a
    have hl0 : 0 < vs.length := by omega
    have hc0 := hv2 0 vs[0] (List.getElem?_eq_getElem hl0) 0 _ rfl
    have hspot : spot = none := by simpa [Addr.add] using World.cell?_spot hc0
    subst hspot
    refine ⟨b, off, rfl, by simpa [Addr.add] using cell_lt hc0, fun j u hu => ?_⟩
    have hj : j < vs.length * 3 := by
      have := (List.getElem?_eq_some_iff.1 hu).1
      rwa [flatMap_len 3 (fun _ => rfl)] at this
    have hq : j / 3 < vs.length := by omega
    have hx := flatMap_at (cells := V.cells) 3 (fun _ => rfl) vs (j / 3) (j % 3) vs[j / 3] _ (List.getElem?_eq_getElem hq) (List.getElem?_eq_getElem (show j % 3 < (V.cells vs[j / 3]).length by simp [V.cells]; omega))
    have he : j / 3 * 3 + j % 3 = j := by omega
    rw [he, hu] at hx
    have hf := hv2 (j / 3) _ (List.getElem?_eq_getElem hq) (j % 3) _ (List.getElem?_eq_getElem (show j % 3 < (V.cells vs[j / 3]).length by simp [V.cells]; omega))
    rw [← hx] at hf
    rw [Go.Deep.add_add, he] at hf
    rwa [addr_add] at hf
end
end Go.Proofs.YtojcabnjodfdmaaGreatDoor

namespace Go.Proofs.YtojcabnjodfdmaaGreatDoor
open Go.RowKit Go.ChangeShapes Go.WideShapes Go.Deep

theorem list5 {α : Type} {l : List α} (h : l.length = 5) : ∃ a b c d e, l = [a, b, c, d, e] := by
  match l, h with
  | [a, b, c, d, e], _ => exact ⟨a, b, c, d, e, rfl⟩
theorem cellsTm : Tryz.prog.cellsOf 48 = 5 := by kernel_rfl
section
variable {H : Type} {enc : TypeId × Value → H} {w : World} {base : Nat} {spare : Nat → Bool} {held : Bool} {fuel : Nat}
theorem openT {cs : List Value} {x : DataW H × List MemPlace} (h : DataW.trod enc Tryz.prog w base spare held fuel 48 cs = some x) : ∃ t : T, cs = t.cells := by
  obtain ⟨ys, n, _, _, hl, hyl, hf⟩ := DataW.trod_struct Tryz.underlying48 h
  rw [cellsTm] at hl
  obtain ⟨c0, c1, c2, c3, c4, rfl⟩ := list5 hl
  obtain ⟨y0, y1, y2, rfl⟩ := list3 (l := ys) hyl
  have h0 : DataW.trod enc Tryz.prog w base spare held n 3 [c0] = some y0 := by simpa [cellsInt] using hf 0 _ rfl
  have h1 : DataW.trod enc Tryz.prog w base spare held n 38 [c1, c2, c3] = some y1 := by simpa [cellsInt, cellsV] using hf 1 _ rfl
  have h2 : DataW.trod enc Tryz.prog w base spare held n 3 [c4] = some y2 := by simpa [cellsInt, cellsV] using hf 2 _ rfl
  obtain ⟨k, e0, _⟩ := DataW.trod_int Tryz.underlying3 h0
  obtain ⟨v, e1⟩ := openV h1
  obtain ⟨m, e2, _⟩ := DataW.trod_int Tryz.underlying3 h2
  simp [V.cells] at e0 e1 e2
  obtain ⟨e1, e3, e4⟩ := e1
  subst e0 e1 e2 e3 e4
  exact ⟨⟨k, v, m⟩, rfl⟩
theorem open_rowT {A : Option Addr} {n c : Nat} {x : DataW H × List MemPlace} (h : DataW.trod enc Tryz.prog w base spare held fuel 23 [.slice A n c] = some x) : n ≤ maxLen ∧ ∃ ts, RowT w w.heap.size A n ts := by
  rcases open_slice Tryz.underlying23 h with ⟨h0, _⟩ | ⟨a, len, cap, m, n', D, Pl, hcs, hb, hl, hm, hmm, _, hi⟩
  · simp at h0
    obtain ⟨rfl, rfl, rfl⟩ := h0
    exact ⟨Nat.zero_le _, [], RowOf.nil_⟩
  · simp at hcs
    obtain ⟨rfl, rfl, rfl⟩ := hcs
    refine ⟨by omega, ?_⟩
    have hnm : n ≤ m := by rw [hmm]; split <;> omega
    have h3 := cellsTm
    obtain ⟨vs, hv1, hv2⟩ := exists_list (P := fun i v => ∀ j u, (T.cells v)[j]? = some u → w.cell? ((a.add (i * 5)).add j) = some u) n (fun i hin => by
      obtain ⟨cs', hc, ht⟩ := hi i (by omega)
      rw [h3] at hc
      obtain ⟨v, rfl⟩ := openT ht
      obtain ⟨_, hcl, hat⟩ := World.cells?_some hc
      exact ⟨v, fun j u hu => (hat j (show j < 5 from (List.getElem?_eq_some_iff.1 hu).1)).trans hu⟩)
    refine ⟨vs, hv1, fun hne => ?_⟩
    have hpos : 0 < n := by
      rcases Nat.eq_zero_or_pos n with h0 | h0
      · subst h0
        rw [List.eq_nil_of_length_eq_zero hv1] at hne
        exact absurd rfl hne
      · exact h0
    obtain ⟨b, off, spot⟩ := a
    have hl0 : 0 < vs.length := by omega
    have hc0 := hv2 0 vs[0] (List.getElem?_eq_getElem hl0) 0 _ rfl
    have hspot : spot = none := by simpa [Addr.add] using World.cell?_spot hc0
    subst hspot
    refine ⟨b, off, rfl, by simpa [Addr.add] using cell_lt hc0, fun j u hu => ?_⟩
    have hj : j < vs.length * 5 := by
      have := (List.getElem?_eq_some_iff.1 hu).1
      rwa [flatMap_len 5 (fun _ => rfl)] at this
    have hq : j / 5 < vs.length := by omega
    have hx := flatMap_at (cells := T.cells) 5 (fun _ => rfl) vs (j / 5) (j % 5) vs[j / 5] _ (List.getElem?_eq_getElem hq) (List.getElem?_eq_getElem (show j % 5 < (T.cells vs[j / 5]).length by simp [T.cells]; omega))
    have he : j / 5 * 5 + j % 5 = j := by omega
    rw [he, hu] at hx
    have hf := hv2 (j / 5) _ (List.getElem?_eq_getElem hq) (j % 5) _ (List.getElem?_eq_getElem (show j % 5 < (T.cells vs[j / 5]).length by simp [T.cells]; omega))
    rw [← hx] at hf
    rw [Go.Deep.add_add, he] at hf
    rwa [addr_add] at hf
end
end Go.Proofs.YtojcabnjodfdmaaGreatDoor

namespace Go.Proofs.YtojcabnjodfdmaaGreatDoor
open Go.RowKit Go.ChangeShapes Go.WideShapes Go.Deep
section
variable {H : Type} {enc : TypeId × Value → H} {w : World} {base : Nat} {spare : Nat → Bool} {held : Bool} {fuel : Nat}
theorem open_cap {t e : TypeId} (ht : Tryz.prog.underlying t = some (.slice e)) {A : Option Addr} {n c : Nat} {x : DataW H × List MemPlace} (h : DataW.trod enc Tryz.prog w base spare held fuel t [.slice A n c] = some x) : n ≤ c ∧ c ≤ maxLen ∧ (A = none → c = 0) := by
  rcases open_slice ht h with ⟨h0, _⟩ | ⟨a, len, cap, m, n', D, Pl, hcs, hb, hl, hm, hmm, _, hi⟩
  · simp at h0
    obtain ⟨rfl, rfl, rfl⟩ := h0
    exact ⟨Nat.le_refl _, Nat.zero_le _, fun _ => rfl⟩
  · simp at hcs
    obtain ⟨rfl, rfl, rfl⟩ := hcs
    exact ⟨hl, hm, fun h => by cases h⟩
end
end Go.Proofs.YtojcabnjodfdmaaGreatDoor

namespace Go.Proofs.YtojcabnjodfdmaaGreatDoor
open Go.RowKit Go.ChangeShapes Go.WideShapes Go.Deep
theorem bytesInt : Tryz.prog.bytesOf 3 = 8 := by kernel_rfl
section
variable {H : Type} {enc : TypeId × Value → H} {w : World} {base : Nat} {spare : Nat → Bool} {held : Bool} {fuel : Nat}
theorem open_intsR {A : Option Addr} {n c : Nat} {x : DataW H × List MemPlace} (h : DataW.trod enc Tryz.prog w base spare held fuel 22 [.slice A n c] = some x) :
    ∃ zs : List Int, (∀ (ts : List TypeId) (ds : List (DataW H)) (j : Nat), (DataW.weightsEach Tryz.prog ts ds).all (· ≤ reachBytes) = true → ts[j]? = some 22 → ds[j]? = some x.1 → IntsR w A n c zs) := by
  rcases open_ints Tryz.underlying22 Tryz.underlying3 cellsInt h with ⟨hcs, _⟩ | ⟨a, l, cp, zs, hcs, _, hl, hm, hz, hx, hcell, _⟩
  · simp at hcs
    obtain ⟨rfl, rfl, rfl⟩ := hcs
    exact ⟨[], fun _ _ _ _ _ _ => ⟨rfl, fun _ => ⟨rfl, rfl⟩, by omega, fun h0 => absurd rfl h0⟩⟩
  · simp at hcs
    obtain ⟨rfl, rfl, rfl⟩ := hcs
    have hzl : n ≤ zs.length := by rw [hz]; split <;> omega
    refine ⟨zs.take n, fun ts ds j hsz ht hd => ?_⟩
    have hb : n ≤ 17592186044416 := by
      have := sized_slice hsz ht (by rw [hd, hx]) Tryz.underlying22
      rw [bytesInt] at this
      simp only [lits, List.length_map, List.length_take, List.length_drop] at this
      have h2 : reachBytes < 2 ^ 47 := reachBytes_lt
      omega
    refine ⟨by simp; omega, (fun e => by cases e), hb, fun hne => ?_⟩
    have hpos : 0 < n := by
      rcases Nat.eq_zero_or_pos n with h0 | h0
      · subst h0; simp [icells] at hne
      · exact h0
    obtain ⟨b, off, spot⟩ := a
    have hc0 := hcell 0 (by omega)
    have hspot : spot = none := by simpa [Addr.add] using World.cell?_spot hc0
    subst hspot
    refine ⟨b, off, rfl, by simpa [Addr.add] using cell_lt hc0, fun j u hu => ?_⟩
    have hj : j < (zs.take n).length := by
      have := (List.getElem?_eq_some_iff.1 hu).1
      simpa [icells] using this
    have hjz : j < zs.length := by simp at hj; omega
    have := hcell j hjz
    rw [addr_add] at this
    rw [this, ← hu]
    simp only [icells, List.getElem?_map, List.getElem?_eq_getElem hj, List.getElem_take, Option.map_some, List.getD, List.getElem?_eq_getElem hjz, Option.getD_some]
end
end Go.Proofs.YtojcabnjodfdmaaGreatDoor

namespace Go.Proofs.YtojcabnjodfdmaaGreatDoor
open Go.ChangeShapes Go.WideShapes Go.ChangeAt Go.RowKit

theorem own : ownKnob Tryz.prog.godebug = none := by kernel_rfl
theorem laidOut : laidOutB Tryz.prog = true := by kernel_rfl
theorem gPow : Tryz.prog.globalNamed "internal/strconv.uint64pow10" = some 1 := by kernel_rfl
theorem gPowType : (Tryz.prog.globals[1]?).map (·.type) = some 144 := by kernel_rfl
theorem cellsPow : Tryz.prog.cellsOf 144 = 20 := by kernel_rfl
theorem cellsU64 : Tryz.prog.cellsOf 106 = 1 := by kernel_rfl
/-- The list of the rows that reach FormatInt alone. -/
def laid3 : List (String × DataW Unit) := [("math/bits.deBruijn32tab", Rows.laid_math_bits_deBruijn32tab), ("math/bits.deBruijn64tab", Rows.laid_math_bits_deBruijn64tab), ("internal/strconv.uint64pow10", Rows.laid_internal_strconv_uint64pow10)]
theorem pow_of {l : List (String × DataW Unit)} {W : World} (hl : l.filter (fun x => x.1 == "internal/strconv.uint64pow10") = [("internal/strconv.uint64pow10", Lib.tabData .u64 Lib.pow10Tab)]) (h : laidMetH Tryz.prog l W) : G W := by
  have h2 := laidMetH.filter (fun x => x.1 == "internal/strconv.uint64pow10") h
  rw [hl] at h2
  exact ⟨Lib.tabIs_of_head (rest := []) gPow gPowType Tryz.underlying144 Tryz.underlying106 cellsU64 cellsPow h2⟩
theorem g_of_laid3 {W : World} (h : laidMetH Tryz.prog laid3 W) : G W := pow_of rfl h
/-- A block of the world's, its cells turned. -/
def putBlock (w : World) (g : Nat) (cs : Array Value) : World := { w with heap := w.heap.modify g fun
  | .cells _ t frozen => .cells cs t frozen
  | o => o }
/-- A world for the witness: the settled one, the listed tables as their text lays them. -/
noncomputable def laidWorld (os : Os) : World :=
  putBlock (putBlock (putBlock (World.holding Tryz.prog os ⟨#[], #[], []⟩) 2 #[.int .u8 0, .int .u8 1, .int .u8 28, .int .u8 2, .int .u8 29, .int .u8 14, .int .u8 24, .int .u8 3, .int .u8 30, .int .u8 22, .int .u8 20, .int .u8 15, .int .u8 25, .int .u8 17, .int .u8 4, .int .u8 8, .int .u8 31, .int .u8 27, .int .u8 13, .int .u8 23, .int .u8 21, .int .u8 19, .int .u8 16, .int .u8 7, .int .u8 26, .int .u8 12, .int .u8 18, .int .u8 6, .int .u8 11, .int .u8 5, .int .u8 10, .int .u8 9])
    3 #[.int .u8 0, .int .u8 1, .int .u8 56, .int .u8 2, .int .u8 57, .int .u8 49, .int .u8 28, .int .u8 3, .int .u8 61, .int .u8 58, .int .u8 42, .int .u8 50, .int .u8 38, .int .u8 29, .int .u8 17, .int .u8 4, .int .u8 62, .int .u8 47, .int .u8 59, .int .u8 36, .int .u8 45, .int .u8 43, .int .u8 51, .int .u8 22, .int .u8 53, .int .u8 39, .int .u8 33, .int .u8 30, .int .u8 24, .int .u8 18, .int .u8 12, .int .u8 5, .int .u8 63, .int .u8 55, .int .u8 48, .int .u8 27, .int .u8 60, .int .u8 41, .int .u8 37, .int .u8 16, .int .u8 46, .int .u8 35, .int .u8 44, .int .u8 21, .int .u8 52, .int .u8 32, .int .u8 23, .int .u8 11, .int .u8 54, .int .u8 26, .int .u8 40, .int .u8 15, .int .u8 34, .int .u8 20, .int .u8 31, .int .u8 10, .int .u8 25, .int .u8 14, .int .u8 19, .int .u8 9, .int .u8 13, .int .u8 8, .int .u8 7, .int .u8 6])
    1 #[.int .u64 1, .int .u64 10, .int .u64 100, .int .u64 1000, .int .u64 10000, .int .u64 100000, .int .u64 1000000, .int .u64 10000000, .int .u64 100000000, .int .u64 1000000000, .int .u64 10000000000, .int .u64 100000000000, .int .u64 1000000000000, .int .u64 10000000000000, .int .u64 100000000000000, .int .u64 1000000000000000, .int .u64 10000000000000000, .int .u64 100000000000000000, .int .u64 1000000000000000000, .int .u64 10000000000000000000]
end Go.Proofs.YtojcabnjodfdmaaGreatDoor

namespace Go.Proofs.YtojcabnjodfdmaaGreatDoor
open Go.RowKit

def tAdd : T := ⟨4, V.null, 0⟩
def tCol (c : Int) : T := ⟨2, V.null, c⟩
def tCst (v : V) : T := ⟨1, v, 0⟩
def int1 : V := ⟨1, 1, ⟨#[]⟩⟩
def int4 : V := ⟨1, 4, ⟨#[]⟩⟩
def int5 : V := ⟨1, 5, ⟨#[]⟩⟩
def plusT : List T := [tAdd, tCol 0, tCst int1]
def plusX : X := .node tAdd [.node (tCol 0) [], .node (tCst int1) []]
theorem plus_flat : plusX.flat = plusT := by simp [plusX, plusT, X.flat, flats]
theorem plus_wf : plusX.wf = true := by
  simp only [plusX, X.wf, wfs, List.length_cons, List.length_nil]
  decide
theorem plus_tree : treeE plusT = some plusX := by
  rw [← plus_flat]
  exact treeE_flat (by rw [plus_flat]; decide) plus_wf (by simp [plusX, X.depth, deepest])
theorem plus_valid : validE plusT = true := (validE_iff _).2 ⟨by decide, plusX, plus_flat.symm, plus_wf, by simp [plusX, X.depth, deepest]⟩
theorem plus_ev4 : evalE plusT [int4] = int5 := by
  unfold evalE
  rw [plus_tree]
  simp only [plusX, X.ev, evs, termV]
  rfl
theorem plus_ev0 : evalE plusT [V.null] = V.null := by
  unfold evalE
  rw [plus_tree]
  simp only [plusX, X.ev, evs, termV]
  rfl
theorem plus_fmt : formatE plusT [⟨#[110]⟩] = [97, 100, 100, 40, 110, 44, 32, 49, 41] := by
  unfold formatE
  rw [plus_tree]
  simp only [plusX, X.fmt, fmts, termF]
  decide +kernel
theorem rowOf_new {α : Type} {cells : α → List Value} (w : World) (cs : Array Value) (t : TypeId) (n : Nat) (vs : List α) (hn : vs.length = n) (hc : cs.toList = vs.flatMap cells) : RowOf cells (w.alloc (.cells cs t)) (w.alloc (.cells cs t)).heap.size (some ⟨w.heap.size, 0, none⟩) n vs := by
  refine ⟨hn, fun _ => ⟨w.heap.size, 0, rfl, by simp, fun j u hu => ?_⟩⟩
  rw [← hc] at hu
  have := new_cells w cs t j u hu
  have h8 : (⟨w.heap.size, 0, none⟩ : Addr).add j = ⟨w.heap.size, 0 + j, none⟩ := by
    unfold Addr.add
    split
    · subst_vars; rfl
    · simp
  rwa [h8] at this
theorem RowOf.to {α : Type} {cells : α → List Value} {w w' : World} {A : Option Addr} {n : Nat} {xs : List α} (h : RowOf cells w w.heap.size A n xs) (hb : Below w.heap.size w w') : RowOf cells w' w'.heap.size A n xs := (h.below hb).more hb.size
def PlPost (w : World) (e : Ending) (w' : World) : Prop := ∃ b, e = .returned (.slice (some ⟨b, 0, none⟩) 3 3) ∧ Below w.heap.size w w' ∧ RowT w' w'.heap.size (some ⟨b, 0, none⟩) 3 plusT
set_option maxRecDepth 100000 in
set_option maxHeartbeats 1000000 in
theorem plus_c (w : World) : Calls Tryz.prog 33 #[] w (PlPost w) := by
  go_enter Tryz.func33, Tryz.ntmps33
  go_wp2_with (go_at_call 34; refine (rint 1 _).mono ?_; rintro e w1 ⟨rfl, hb1⟩; have hz1 := hb1.size; (try simp at hz1); rw [show (V.mk 1 1 ⟨#[]⟩).cl = int1 from rfl])
  go_ret
  exact ⟨w1.heap.size, rfl, by (repeat (first | (with_reducible exact Below.refl _ _) | (with_reducible assumption) | (with_reducible refine Below.drew ?_) | (with_reducible refine below_drewN ?_ _) | ((with_reducible refine Below.setCell ?_ ?_ _); rotate_left; (focus (first | (simp; done) | (simp; omega) | omega))) | ((with_reducible refine Below.alloc ?_ ?_ _); rotate_left; (focus (first | (simp; done) | (simp; omega) | omega))) | ((with_reducible apply below_step1); (focus (with_reducible assumption))))), rowOf_new w1 _ _ 3 plusT rfl rfl⟩
set_option maxRecDepth 100000 in
set_option maxHeartbeats 2000000 in
theorem awake_c (w : World) (hG : G w) : Calls Tryz.prog 16 #[] w fun e w' => e = .returned (.bool true) ∧ Below w.heap.size w w' := by
  have q5 : ∀ w, (binOp .eql 38 (.agg #[.int .i64 int5.k, .int .i64 int5.n, .string int5.s]) (.agg #[.int .i64 int5.k, .int .i64 int5.n, .string int5.s])).run Tryz.prog w = .ok (.bool true) w := fun w => run_eqV _ _ _ _ _ _ w
  have q0 : ∀ w, (binOp .eql 38 (.agg #[.int .i64 V.null.k, .int .i64 V.null.n, .string V.null.s]) (.agg #[.int .i64 0, .int .i64 0, .string ⟨#[]⟩])).run Tryz.prog w = .ok (.bool true) w := fun w => run_eqV _ _ _ _ _ _ w
  go_enter Tryz.func16, Tryz.ntmps16
  go_wp2_with (first
    | (go_at_call 33; refine (plus_c w).mono ?_; rintro e w1 ⟨b1, rfl, hb1, hr1⟩; have hz1 := hb1.size; (try simp at hz1))
    | (go_at_call 11; refine (xvalidE _ _ _ _ _ (by decide) hr1).mono ?_; rintro e w2 ⟨rfl, hb2⟩; have hz2 := hb2.size; (try simp at hz2); rw [plus_valid])
    | (go_at_call 33; refine (plus_c w2).mono ?_; rintro e w3 ⟨b3, rfl, hb3, hr3⟩; have hz3 := hb3.size; (try simp at hz3))
    | (go_at_call 34; refine (rint 4 _).mono ?_; rintro e w4 ⟨rfl, hb4⟩; have hz4 := hb4.size; (try simp at hz4); rw [show (V.mk 1 4 ⟨#[]⟩).cl = int4 from rfl])
    | (go_at_call 15; refine (xeval _ _ _ _ _ _ plusT [int4] _ (by decide) (by decide) (by exact hr3.to (by (repeat (first | (with_reducible exact Below.refl _ _) | (with_reducible assumption) | (with_reducible refine Below.drew ?_) | (with_reducible refine below_drewN ?_ _) | ((with_reducible refine Below.setCell ?_ ?_ _); rotate_left; (focus (first | (simp; done) | (simp; omega) | omega))) | ((with_reducible refine Below.alloc ?_ ?_ _); rotate_left; (focus (first | (simp; done) | (simp; omega) | omega))) | ((with_reducible apply below_step1); (focus (with_reducible assumption))))))) (by exact rowOf_new w4 _ _ 1 [int4] rfl rfl)).mono ?_; rintro e w5 ⟨rfl, hb5⟩; have hz5 := hb5.size; (try simp at hz5); rw [plus_ev4])
    | (go_at_call 34; refine (rint 5 _).mono ?_; rintro e w6 ⟨rfl, hb6⟩; have hz6 := hb6.size; (try simp at hz6); rw [show (V.mk 1 5 ⟨#[]⟩).cl = int5 from rfl])
    | (go_at_call 33; refine (plus_c w6).mono ?_; rintro e w7 ⟨b7, rfl, hb7, hr7⟩; have hz7 := hb7.size; (try simp at hz7))
    | (go_at_call 15; refine (xeval _ _ _ _ _ _ plusT [V.null] _ (by decide) (by decide) (by exact hr7.to (by (repeat (first | (with_reducible exact Below.refl _ _) | (with_reducible assumption) | (with_reducible refine Below.drew ?_) | (with_reducible refine below_drewN ?_ _) | ((with_reducible refine Below.setCell ?_ ?_ _); rotate_left; (focus (first | (simp; done) | (simp; omega) | omega))) | ((with_reducible refine Below.alloc ?_ ?_ _); rotate_left; (focus (first | (simp; done) | (simp; omega) | omega))) | ((with_reducible apply below_step1); (focus (with_reducible assumption))))))) (by exact rowOf_new w7 _ _ 1 [V.null] rfl rfl)).mono ?_; rintro e w8 ⟨rfl, hb8⟩; have hz8 := hb8.size; (try simp at hz8); rw [plus_ev0])
    | (go_at_call 33; refine (plus_c w8).mono ?_; rintro e w9 ⟨b9, rfl, hb9, hr9⟩; have hz9 := hb9.size; (try simp at hz9))
    | (go_at_call 35; refine (xformat _ _ _ _ _ _ plusT [⟨#[110]⟩] _ (by decide) (by decide) (by intro s hs; simp at hs; subst hs; decide) (by exact hG.below (by (repeat (first | (with_reducible exact Below.refl _ _) | (with_reducible assumption) | (with_reducible refine Below.drew ?_) | (with_reducible refine below_drewN ?_ _) | ((with_reducible refine Below.setCell ?_ ?_ _); rotate_left; (focus (first | (simp; done) | (simp; omega) | omega))) | ((with_reducible refine Below.alloc ?_ ?_ _); rotate_left; (focus (first | (simp; done) | (simp; omega) | omega))) | ((with_reducible apply below_step1); (focus (with_reducible assumption))))))) (by exact hr9.to (by (repeat (first | (with_reducible exact Below.refl _ _) | (with_reducible assumption) | (with_reducible refine Below.drew ?_) | (with_reducible refine below_drewN ?_ _) | ((with_reducible refine Below.setCell ?_ ?_ _); rotate_left; (focus (first | (simp; done) | (simp; omega) | omega))) | ((with_reducible refine Below.alloc ?_ ?_ _); rotate_left; (focus (first | (simp; done) | (simp; omega) | omega))) | ((with_reducible apply below_step1); (focus (with_reducible assumption))))))) (by exact rowOf_new (cells := fun s => [Value.string s]) w9 _ _ 1 [(⟨#[110]⟩ : ByteArray)] rfl rfl)).mono ?_; rintro e w10 ⟨rfl, hb10⟩; have hz10 := hb10.size; (try simp at hz10); rw [plus_fmt]))
  go_ret
  exact ⟨rfl, by (repeat (first | (with_reducible exact Below.refl _ _) | (with_reducible assumption) | (with_reducible refine Below.drew ?_) | (with_reducible refine below_drewN ?_ _) | ((with_reducible refine Below.setCell ?_ ?_ _); rotate_left; (focus (first | (simp; done) | (simp; omega) | omega))) | ((with_reducible refine Below.alloc ?_ ?_ _); rotate_left; (focus (first | (simp; done) | (simp; omega) | omega))) | ((with_reducible apply below_step1); (focus (with_reducible assumption)))))⟩
end Go.Proofs.YtojcabnjodfdmaaGreatDoor
