/- Contract of the program's evalAt. Contracts of the program's Eval and Holds. Contracts of the laws' plus and awake; the table of powers of ten is as it is laid. Contract of the program's resultType. Folding, in the words of lists. Plain Lean, no condition. -/
import Derived.Test.YtpnfbehbheddeaaGreatDoorBn13
import Derived.Test.YtpnfbehbheddeaaGreatDoorBn14
import Derived.Test.YtpnfbehbheddeaaGreatDoorBn15
import Derived.Test.YtpnfbehbheddeaaGreatDoorBn02
import Derived.Test.YtpnfbehbheddeaaGreatDoorBn03
import Derived.Test.YtpnfbehbheddeaaGreatDoorBn01
import Derived.Test.YtpnfbehbheddeaaGreatDoorBn00
import Derived.Laws.Tables
import Derived.Laws.CopyOwn
import Derived.Laws.MakeOwn
import Derived.Laws.Concat
namespace Go.Proofs.YtpnfbehbheddeaaGreatDoor
set_option maxRecDepth 100000
set_option maxHeartbeats 8000000
set_option linter.unusedVariables false
set_option linter.unusedSimpArgs false
open Go.RowKit
theorem ext_of {W X : World} (h : Below W.heap.size W X) : Below W.heap.size W X ∧ ∀ b o, b < W.heap.size → X.cell? ⟨b, o, none⟩ = W.cell? ⟨b, o, none⟩ := ⟨h, fun b o hb => h.cell (p := ⟨b, o, none⟩) hb⟩
def EvPost (w : World) (v : V) (k : Nat) (e : Ending) (w' : World) : Prop := e = .returned (.tuple #[.agg #[.int .i64 v.k, .int .i64 v.n, .string v.s], .int .i64 (k : Int)]) ∧ Below w.heap.size w w'
def evAt (row : List V) (ks : List X) (i j : Nat) : V := (evs row (ks.take i)).getD j V.null
theorem evAt_zero (row : List V) (ks : List X) (j : Nat) : evAt row ks 0 j = V.null := by simp [evAt, evs]
theorem getD_snoc (l : List V) (v : V) (j : Nat) : (l ++ [v]).getD j V.null = if j = l.length then v else l.getD j V.null := by
  simp only [List.getD_eq_getElem?_getD]
  split
  · rename_i h; subst h; simp
  · rename_i h
    rcases Nat.lt_or_ge j l.length with h1 | h1
    · rw [List.getElem?_append_left h1]
    · rw [List.getElem?_append_right h1, List.getElem?_eq_none (l := l) h1, List.getElem?_eq_none (by simp; omega)]
theorem evAt_succ {row : List V} {ks : List X} {i : Nat} {k : X} (h : ks[i]? = some k) (j : Nat) : evAt row ks (i + 1) j = if j = i then k.ev row else evAt row ks i j := by
  have hl : i < ks.length := (List.getElem?_eq_some_iff.1 h).1
  unfold evAt
  rw [List.take_add_one, h]
  simp only [Option.toList_some]
  rw [evs_snoc, getD_snoc, evs_len, List.length_take, Nat.min_eq_left (by omega)]
theorem evAt_all (row : List V) (ks : List X) (j : Nat) : evAt row ks ks.length j = (evs row ks).getD j V.null := by simp [evAt]
theorem kid_at {es : List T} {pos : Nat} {t : T} {ks : List X} {r : List T} (hx : es.drop pos = (X.node t ks).flat ++ r) {i : Nat} {k : X} (h : ks[i]? = some k) : es.drop (pos + 1 + (flats (ks.take i)).length) = k.flat ++ (flats (ks.drop (i + 1)) ++ r) := by
  have hl : i < ks.length := (List.getElem?_eq_some_iff.1 h).1
  have hs : flats ks = flats (ks.take i) ++ (k.flat ++ flats (ks.drop (i + 1))) := by
    conv => lhs; rw [← List.take_append_drop i ks]
    rw [List.drop_eq_getElem_cons hl, (List.getElem?_eq_some_iff.1 h).2]
    generalize ks.take i = l
    induction l with
    | nil => simp [flats]
    | cons y ys ih => simp only [List.cons_append, flats_cons, ih]; simp
  rw [X.flat_node, hs] at hx
  have e1 : es.drop (pos + 1) = flats (ks.take i) ++ (k.flat ++ flats (ks.drop (i + 1))) ++ r := by
    rw [← List.drop_drop, hx]; simp
  rw [← List.drop_drop, e1, List.append_assoc, List.drop_left, List.append_assoc]
theorem kid_in {ks : List X} {i : Nat} {k : X} (h : ks[i]? = some k) : k.depth ≤ deepest ks ∧ (wfs ks = true → k.wf = true) ∧ (flats (ks.take (i + 1))).length = (flats (ks.take i)).length + k.flat.length := by
  have hl : i < ks.length := (List.getElem?_eq_some_iff.1 h).1
  refine ⟨?_, ?_, ?_⟩
  · have : ∀ (l : List X) (k : X), k ∈ l → k.depth ≤ deepest l := by
      intro l
      induction l with
      | nil => intro k hk; cases hk
      | cons y ys ih =>
        intro k hk
        simp only [deepest]
        rcases List.mem_cons.1 hk with rfl | hk
        · omega
        · have := ih k hk; omega
    exact this ks k (List.mem_of_getElem? h)
  · have : ∀ (l : List X) (k : X), k ∈ l → wfs l = true → k.wf = true := by
      intro l
      induction l with
      | nil => intro k hk; cases hk
      | cons y ys ih =>
        intro k hk hw
        simp only [wfs, Bool.and_eq_true] at hw
        rcases List.mem_cons.1 hk with rfl | hk
        · exact hw.1
        · exact ih k hk hw.2
    exact this ks k (List.mem_of_getElem? h)
  · rw [List.take_add_one, h]
    simp only [Option.toList_some]
    rw [flats_snoc, List.length_append]
structure Ev3 (w wr : World) (t : T) (a b c : V) : Prop where
  bel : Below w.heap.size w wr
  sz : w.heap.size + 3 ≤ wr.heap.size
  fr0 : ∀ i, wr.frozen? ⟨w.heap.size, i, none⟩ = false
  fr2 : ∀ i, wr.frozen? ⟨w.heap.size + 1 + 1, i, none⟩ = false
  r0 : wr.cell? ⟨w.heap.size, 0, none⟩ = some (.int .i64 0)
  r1 : wr.cell? ⟨w.heap.size, 1, none⟩ = some (.int .i64 0)
  r2 : wr.cell? ⟨w.heap.size, 2, none⟩ = some (.string ⟨#[]⟩)
  t0 : wr.cell? ⟨w.heap.size + 1, 0, none⟩ = some (.int .i64 t.op)
  t1 : wr.cell? ⟨w.heap.size + 1, 1, none⟩ = some (.int .i64 t.v.k)
  t2 : wr.cell? ⟨w.heap.size + 1, 2, none⟩ = some (.int .i64 t.v.n)
  t3 : wr.cell? ⟨w.heap.size + 1, 3, none⟩ = some (.string t.v.s)
  t4 : wr.cell? ⟨w.heap.size + 1, 4, none⟩ = some (.int .i64 t.c)
  o0 : wr.cell? ⟨w.heap.size + 1 + 1, 0, none⟩ = some (.int .i64 a.k)
  o1 : wr.cell? ⟨w.heap.size + 1 + 1, 1, none⟩ = some (.int .i64 a.n)
  o2 : wr.cell? ⟨w.heap.size + 1 + 1, 2, none⟩ = some (.string a.s)
  o3 : wr.cell? ⟨w.heap.size + 1 + 1, 3, none⟩ = some (.int .i64 b.k)
  o4 : wr.cell? ⟨w.heap.size + 1 + 1, 4, none⟩ = some (.int .i64 b.n)
  o5 : wr.cell? ⟨w.heap.size + 1 + 1, 5, none⟩ = some (.string b.s)
  o6 : wr.cell? ⟨w.heap.size + 1 + 1, 6, none⟩ = some (.int .i64 c.k)
  o7 : wr.cell? ⟨w.heap.size + 1 + 1, 7, none⟩ = some (.int .i64 c.n)
  o8 : wr.cell? ⟨w.heap.size + 1 + 1, 8, none⟩ = some (.string c.s)
structure Ev6 (w wx : World) (t : T) (a b c : V) (x y z : Nat) : Prop where
  bel : Below w.heap.size w wx
  sz : w.heap.size + 3 ≤ wx.heap.size
  lx : x < wx.heap.size
  ly : y < wx.heap.size
  lz : z < wx.heap.size
  fr0 : ∀ i, wx.frozen? ⟨w.heap.size, i, none⟩ = false
  r0 : wx.cell? ⟨w.heap.size, 0, none⟩ = some (.int .i64 0)
  r1 : wx.cell? ⟨w.heap.size, 1, none⟩ = some (.int .i64 0)
  r2 : wx.cell? ⟨w.heap.size, 2, none⟩ = some (.string ⟨#[]⟩)
  t0 : wx.cell? ⟨w.heap.size + 1, 0, none⟩ = some (.int .i64 t.op)
  t1 : wx.cell? ⟨w.heap.size + 1, 1, none⟩ = some (.int .i64 t.v.k)
  t2 : wx.cell? ⟨w.heap.size + 1, 2, none⟩ = some (.int .i64 t.v.n)
  t3 : wx.cell? ⟨w.heap.size + 1, 3, none⟩ = some (.string t.v.s)
  t4 : wx.cell? ⟨w.heap.size + 1, 4, none⟩ = some (.int .i64 t.c)
  a0 : wx.cell? ⟨x, 0, none⟩ = some (.int .i64 a.k)
  a1 : wx.cell? ⟨x, 1, none⟩ = some (.int .i64 a.n)
  a2 : wx.cell? ⟨x, 2, none⟩ = some (.string a.s)
  b0 : wx.cell? ⟨y, 0, none⟩ = some (.int .i64 b.k)
  b1 : wx.cell? ⟨y, 1, none⟩ = some (.int .i64 b.n)
  b2 : wx.cell? ⟨y, 2, none⟩ = some (.string b.s)
  c0 : wx.cell? ⟨z, 0, none⟩ = some (.int .i64 c.k)
  c1 : wx.cell? ⟨z, 1, none⟩ = some (.int .i64 c.n)
  c2 : wx.cell? ⟨z, 2, none⟩ = some (.string c.s)
def EvCut (w : World) (t : T) (a b c : V) (p12 p13 p14 : Value) (wx : World) : Prop := ∃ x y z : Nat, p12 = .pointer (some ⟨x, 0, none⟩) ∧ p13 = .pointer (some ⟨y, 0, none⟩) ∧ p14 = .pointer (some ⟨z, 0, none⟩) ∧ Ev6 w wx t a b c x y z
def EvRel (w : World) (t : T) (row : List V) (ks : List X) (pos : Nat) (v9 v24 : Value) (wr : World) : Prop := ∃ i p : Nat, i ≤ ks.length ∧ v24 = .int .i64 i ∧ v9 = .int .i64 (p : Int) ∧ p = pos + 1 + (flats (ks.take i)).length ∧ Ev3 w wr t (evAt row ks i 0) (evAt row ks i 1) (evAt row ks i 2)
theorem evalAt_c (A R : Option Addr) (n c m d : Nat) (es : List T) (row : List V) (hn : n ≤ 1000) (hm : m ≤ maxLen) : ∀ (f : Nat) (x : X) (r : List T) (pos : Nat) (w : World), x.depth ≤ f → x.wf = true → es.drop pos = x.flat ++ r → RowT w w.heap.size A n es → Row w w.heap.size R m row → Calls Tryz.prog 27 #[.slice A n c, .int .i64 (pos : Int), .slice R m d] w (EvPost w (x.ev row) (pos + x.flat.length)) := by
  intro f
  induction f with
  | zero => intro x r pos w hd; have := x.depth_pos; omega
  | succ f ih =>
    intro x r pos w hd hw hx hr hv
    obtain ⟨t, ks⟩ := x
    have hlen := congrArg List.length hx
    rw [List.length_drop, X.flat_node, List.length_append, List.length_cons, hr.len] at hlen
    have hlt : pos < n := by omega
    obtain ⟨b, off, t', rfl, hb, ht, c0, c1, c2, c3, c4⟩ := RowT.at5 hr hlt
    have htt : t' = t := by
      have h2 := drop_term ht
      rw [hx, X.flat_node, List.cons_append] at h2
      injection h2 with h2 _
      exact h2.symm
    subst htt
    have hp0 : (0 : Int) ≤ (pos : Int) := by omega
    have hp1 : (pos : Int) < (n : Int) := by omega
    have hpw : IntKind.i64.wrap ((pos : Int) + 1) = (pos : Int) + 1 := IntWalk.i64_in _ (by omega)
    have hw2 := hw
    simp only [X.wf, Bool.and_eq_true, decide_eq_true_eq] at hw2
    obtain ⟨hok, hkl, hkw⟩ := hw2
    have hak : 0 ≤ arity t'.op := by
      rw [T.ok_fok, Bool.and_eq_true, decide_eq_true_eq] at hok
      exact hok.1
    have HN := Lib.hid (show (ks.length : Int) = arity t'.op by rw [hkl]; unfold ar; omega)
    have har := arity_range t'.op
    have hk3 : ks.length ≤ 3 := by have := HN.out; omega
    simp only [X.depth] at hd
    have HX := Lib.hid hx
    have HK := Lib.hid hok
    have HW := Lib.hid hkw
    have HFL := Lib.hid hlen
    have HP := Lib.hid (show pos + (X.node t' ks).flat.length = pos + 1 + (flats ks).length by rw [X.flat_node, List.length_cons]; omega)
    have HE := Lib.hid (show (X.node t' ks).ev row = termV row t' (evs row ks) by rw [X.ev])
    generalize pos + (X.node t' ks).flat.length = pe at HP
    generalize (X.node t' ks).ev row = ve at HE
    clear ht hx hok hkw hw hkl hlen
    go_enter Tryz.func27, Tryz.ntmps27
    go_wp2_with (go_at_call 55; refine (xarity t'.op _).mono ?_; rintro e w1 ⟨rfl, rfl⟩)
    go_loopw [9, 24] (fun v9 v24 wr => EvRel w t' row ks pos v9 v24 wr) (fun _ v24 _ => ks.length - (intOf v24).toNat)
    case atStart =>
      refine ⟨0, pos + 1, Nat.zero_le _, rfl, by go_num, by simp [flats], ?_⟩
      rw [evAt_zero, evAt_zero, evAt_zero]
      constructor
      · (exact belQ)
      · simp
      all_goals (first | (intro i; simp [go_sem]; done) | (simp [go_sem, V.null]; done) | trace_state)
    case round =>
      obtain ⟨i, p, hi, rfl, rfl, hp, h3⟩ := hrel
      obtain ⟨hbel, hsz, fr0, fr2, r0, r1, r2, t0, t1, t2, t3, t4, o0, o1, o2, o3, o4, o5, o6, o7, o8⟩ := h3
      have hzz := hbel.size
      have hs0 : w.heap.size < wr.heap.size := by omega
      have hs1 : w.heap.size + 1 < wr.heap.size := by omega
      have hs2 : w.heap.size + 1 + 1 < wr.heap.size := by omega
      by_cases hlt2 : i < ks.length
      · have hia : (i : Int) < arity t'.op := by have := HN.out; omega
        have hki : ks[i]? = some ks[i] := List.getElem?_eq_getElem hlt2
        generalize ks[i] = k at hki
        obtain ⟨k1, k2, k3⟩ := kid_in hki
        have hka := kid_at HX.out hki
        rw [← hp] at hka
        have ihe := ih k _ p wr (by omega) (k2 HW.out) hka ((hr.below hbel).more hzz) ((hv.below hbel).more hzz)
        have HS := Lib.hid (evAt_succ (row := row) hki)
        have hbnd : p + k.flat.length ≤ 1000 := by
          have h2 := congrArg List.length hka
          rw [List.length_drop, List.length_append, hr.len] at h2
          have h4 := k.flat_pos
          omega
        have HP1 := Lib.hid (show p + k.flat.length = pos + 1 + (flats (ks.take (i + 1))).length by omega)
        generalize p + k.flat.length = p1 at ihe hbnd HP1
        generalize k.ev row = kv at ihe HS
        clear hka hki k1 k2 k3 hp hr hv ih
        obtain rfl | rfl | rfl : i = 0 ∨ i = 1 ∨ i = 2 := by omega
        · go_wp2_with (go_at_call 27; refine ihe.mono ?_; rintro e2 w2 ⟨rfl, hb2⟩; obtain ⟨hc2, hf2⟩ := bcell hb2; have hz2 := (hb2).size; (try simp at hz2); have hl20 : w.heap.size < w2.heap.size := (by omega); have hl21 : w.heap.size + 1 < w2.heap.size := (by omega); have hl22 : w.heap.size + 1 + 1 < w2.heap.size := (by omega))
          refine ⟨⟨1, p1, by omega, rfl, rfl, HP1.out, ?_⟩, by simp [intOf]; omega⟩
          rw [HS.out 0, HS.out 1, HS.out 2, if_pos rfl, if_neg (by decide), if_neg (by decide)]
          constructor
          · (exact belQ)
          · simp; omega
          all_goals (first | (intro i; simp [go_sem, *]; done) | (simp [go_sem, *]; done))
        · go_wp2_with (go_at_call 27; refine ihe.mono ?_; rintro e2 w2 ⟨rfl, hb2⟩; obtain ⟨hc2, hf2⟩ := bcell hb2; have hz2 := (hb2).size; (try simp at hz2); have hl20 : w.heap.size < w2.heap.size := (by omega); have hl21 : w.heap.size + 1 < w2.heap.size := (by omega); have hl22 : w.heap.size + 1 + 1 < w2.heap.size := (by omega))
          refine ⟨⟨2, p1, by omega, rfl, rfl, HP1.out, ?_⟩, by simp [intOf]; omega⟩
          rw [HS.out 0, HS.out 1, HS.out 2, if_neg (by decide), if_pos rfl, if_neg (by decide)]
          constructor
          · (exact belQ)
          · simp; omega
          all_goals (first | (intro i; simp [go_sem, *]; done) | (simp [go_sem, *]; done))
        · go_wp2_with (go_at_call 27; refine ihe.mono ?_; rintro e2 w2 ⟨rfl, hb2⟩; obtain ⟨hc2, hf2⟩ := bcell hb2; have hz2 := (hb2).size; (try simp at hz2); have hl20 : w.heap.size < w2.heap.size := (by omega); have hl21 : w.heap.size + 1 < w2.heap.size := (by omega); have hl22 : w.heap.size + 1 + 1 < w2.heap.size := (by omega))
          refine ⟨⟨3, p1, by omega, rfl, rfl, HP1.out, ?_⟩, by simp [intOf]; omega⟩
          rw [HS.out 0, HS.out 1, HS.out 2, if_neg (by decide), if_neg (by decide), if_pos rfl]
          constructor
          · (exact belQ)
          · simp; omega
          all_goals (first | (intro i; simp [go_sem, *]; done) | (simp [go_sem, *]; done))
      · have hia : ¬ (i : Int) < arity t'.op := by have := HN.out; omega
        obtain rfl : i = ks.length := by omega
        rw [List.take_length] at hp
        have HPE := Lib.hid (show p = pe by rw [hp, HP.out])
        have hev := evs_ok row ks HW.out
        have va_ok := getD_ok hev 0
        have vb_ok := getD_ok hev 1
        have vc_ok := getD_ok hev 2
        rw [evAt_all] at o0 o1 o2 o3 o4 o5 o6 o7 o8
        unfold termV at HE
        generalize (evs row ks).getD 0 V.null = va at o0 o1 o2 HE va_ok
        generalize (evs row ks).getD 1 V.null = vb at o3 o4 o5 HE vb_ok
        generalize (evs row ks).getD 2 V.null = vc at o6 o7 o8 HE vc_ok
        clear hev hp ih hlt2
        go_upto_region 9 with fail
        go_cut [12, 13, 14] (fun p12 p13 p14 wx => EvCut w t' va vb vc p12 p13 p14 wx)
        case first =>
          go_region_held3 (fun w' => Below (wr).heap.size (wr) w' ∧ ∀ b o, b < (wr).heap.size → w'.cell? ⟨b, o, none⟩ = (wr).cell? ⟨b, o, none⟩) (((with_reducible refine ext_of ?_); (exact belQ))) (fail)
          all_goals go_wp2_with fail
          all_goals go_meet
          all_goals go_light
          all_goals refine ⟨_, _, _, rfl, rfl, rfl, ?_⟩
          all_goals constructor
          all_goals (first | (simp; done) | (simp; omega) | (intro i; refine ((show Below wr.heap.size wr _ by (exact belQ)).frozen (p := ⟨w.heap.size, i, none⟩) hs0).trans (fr0 i)) | (simp [go_sem, *]; done) | ((exact belQ); done))
        case rest =>
          obtain ⟨x, y, z, rfl, rfl, rfl, h6⟩ := hcut
          clear r0 r1 r2 t0 t1 t2 t3 t4 o0 o1 o2 o3 o4 o5 o6 o7 o8 fr0 fr2
          obtain ⟨xbel, xsz, lx, ly, lz, fr0, r0, r1, r2, t0, t1, t2, t3, t4, a0, a1, a2, b0, b1, b2, d0, d1, d2⟩ := h6
          have hx0 : w.heap.size < wc.heap.size := by omega
          have hx1 : w.heap.size + 1 < wc.heap.size := by omega
          have hrow := (hv.below xbel).more xbel.size
          have HTO := Lib.hid (term_op HK.out)
          have sa := ok_size va_ok
          have sb := ok_size vb_ok
          have na := ok_bounds va_ok
          have nb := ok_bounds vb_ok
          clear hv hr
          by_cases hk : t'.op = 1
          · have tk : (t'.op == 1) = true := by simpa using hk
            have HR := Lib.hid (show ve = t'.v by rw [HE.out, if_pos hk])
            clear hk
            go_wp2_with fail
            refine bodyPost_ret (by simp [results, Tryz.results27, go_sem, *]; rfl) rfl ?_
            unfold EvPost
            rw [HR.out, ← HPE.out]
            exact ⟨rfl, by (exact belQ)⟩
          have tk1 : (t'.op == 1) = false := by simpa using hk
          have hk1 := Lib.hid hk
          clear hk
          by_cases hk : t'.op = 2
          · have tk : (t'.op == 2) = true := by simpa using hk
            have hc0 := (term_col HK.out hk).1
            have HR := Lib.hid (show ve = cellV row t'.c by rw [HE.out, if_neg (by omega), if_pos hk])
            clear hk
            go_wp2_with (go_at_call 56; refine (cell_c R m d row t'.c _ hm hc0 hrow).mono ?_; rintro e w1 ⟨rfl, hb1⟩; obtain ⟨hc1, hf1⟩ := bcell hb1; have hz1 := (hb1).size; (try simp at hz1); have hl10 : w.heap.size < w1.heap.size := (by omega))
            refine bodyPost_ret (by simp [results, Tryz.results27, go_sem, *]; rfl) rfl ?_
            unfold EvPost
            rw [HR.out, ← HPE.out]
            exact ⟨rfl, by (exact belQ)⟩
          have tk2 : (t'.op == 2) = false := by simpa using hk
          have hk2 := Lib.hid hk
          clear hk
          by_cases hk : t'.op = 14
          · have tk : (t'.op == 14) = true := by simpa using hk
            have HR := Lib.hid (show ve = lenientV t'.op va vb vc by rw [HE.out, if_neg (by omega), if_neg (by omega), opV, if_pos (by omega)])
            clear hk
            go_wp2_with (go_at_call 57; refine (lenient_c t'.op va vb vc _).mono ?_; rintro e w1 ⟨rfl, hb1⟩; obtain ⟨hc1, hf1⟩ := bcell hb1; have hz1 := (hb1).size; (try simp at hz1); have hl10 : w.heap.size < w1.heap.size := (by omega))
            refine bodyPost_ret (by simp [results, Tryz.results27, go_sem, *]; rfl) rfl ?_
            unfold EvPost
            rw [HR.out, ← HPE.out]
            exact ⟨rfl, by (exact belQ)⟩
          have tk14 : (t'.op == 14) = false := by simpa using hk
          have hk14 := Lib.hid hk
          clear hk
          by_cases hk : t'.op = 15
          · have tk : (t'.op == 15) = true := by simpa using hk
            have HR := Lib.hid (show ve = lenientV t'.op va vb vc by rw [HE.out, if_neg (by omega), if_neg (by omega), opV, if_pos (by omega)])
            clear hk
            go_wp2_with (go_at_call 57; refine (lenient_c t'.op va vb vc _).mono ?_; rintro e w1 ⟨rfl, hb1⟩; obtain ⟨hc1, hf1⟩ := bcell hb1; have hz1 := (hb1).size; (try simp at hz1); have hl10 : w.heap.size < w1.heap.size := (by omega))
            refine bodyPost_ret (by simp [results, Tryz.results27, go_sem, *]; rfl) rfl ?_
            unfold EvPost
            rw [HR.out, ← HPE.out]
            exact ⟨rfl, by (exact belQ)⟩
          have tk15 : (t'.op == 15) = false := by simpa using hk
          have hk15 := Lib.hid hk
          clear hk
          by_cases hk : t'.op = 16
          · have tk : (t'.op == 16) = true := by simpa using hk
            have HR := Lib.hid (show ve = lenientV t'.op va vb vc by rw [HE.out, if_neg (by omega), if_neg (by omega), opV, if_pos (by omega)])
            clear hk
            go_wp2_with (go_at_call 57; refine (lenient_c t'.op va vb vc _).mono ?_; rintro e w1 ⟨rfl, hb1⟩; obtain ⟨hc1, hf1⟩ := bcell hb1; have hz1 := (hb1).size; (try simp at hz1); have hl10 : w.heap.size < w1.heap.size := (by omega))
            refine bodyPost_ret (by simp [results, Tryz.results27, go_sem, *]; rfl) rfl ?_
            unfold EvPost
            rw [HR.out, ← HPE.out]
            exact ⟨rfl, by (exact belQ)⟩
          have tk16 : (t'.op == 16) = false := by simpa using hk
          have hk16 := Lib.hid hk
          clear hk
          by_cases hk : t'.op = 17
          · have tk : (t'.op == 17) = true := by simpa using hk
            have HR := Lib.hid (show ve = lenientV t'.op va vb vc by rw [HE.out, if_neg (by omega), if_neg (by omega), opV, if_pos (by omega)])
            clear hk
            go_wp2_with (go_at_call 57; refine (lenient_c t'.op va vb vc _).mono ?_; rintro e w1 ⟨rfl, hb1⟩; obtain ⟨hc1, hf1⟩ := bcell hb1; have hz1 := (hb1).size; (try simp at hz1); have hl10 : w.heap.size < w1.heap.size := (by omega))
            refine bodyPost_ret (by simp [results, Tryz.results27, go_sem, *]; rfl) rfl ?_
            unfold EvPost
            rw [HR.out, ← HPE.out]
            exact ⟨rfl, by (exact belQ)⟩
          have tk17 : (t'.op == 17) = false := by simpa using hk
          have hk17 := Lib.hid hk
          clear hk
          by_cases hk : t'.op = 18
          · have tk : (t'.op == 18) = true := by simpa using hk
            have HR := Lib.hid (show ve = lenientV t'.op va vb vc by rw [HE.out, if_neg (by omega), if_neg (by omega), opV, if_pos (by omega)])
            clear hk
            go_wp2_with (go_at_call 57; refine (lenient_c t'.op va vb vc _).mono ?_; rintro e w1 ⟨rfl, hb1⟩; obtain ⟨hc1, hf1⟩ := bcell hb1; have hz1 := (hb1).size; (try simp at hz1); have hl10 : w.heap.size < w1.heap.size := (by omega))
            refine bodyPost_ret (by simp [results, Tryz.results27, go_sem, *]; rfl) rfl ?_
            unfold EvPost
            rw [HR.out, ← HPE.out]
            exact ⟨rfl, by (exact belQ)⟩
          have tk18 : (t'.op == 18) = false := by simpa using hk
          have hk18 := Lib.hid hk
          clear hk
          by_cases hk : t'.op = 8
          · have tk : (t'.op == 8) = true := by simpa using hk
            have HR := Lib.hid (show ve = textV t'.op va vb by rw [HE.out, if_neg (by omega), if_neg (by omega), opV, if_neg (by omega), if_pos (by omega)])
            clear hk
            go_wp2_with (go_at_call 58; refine (ofText_c t'.op va vb _ (by omega) (by omega)).mono ?_; rintro e w1 ⟨rfl, hb1⟩; obtain ⟨hc1, hf1⟩ := bcell hb1; have hz1 := (hb1).size; (try simp at hz1); have hl10 : w.heap.size < w1.heap.size := (by omega))
            refine bodyPost_ret (by simp [results, Tryz.results27, go_sem, *]; rfl) rfl ?_
            unfold EvPost
            rw [HR.out, ← HPE.out]
            exact ⟨rfl, by (exact belQ)⟩
          have tk8 : (t'.op == 8) = false := by simpa using hk
          have hk8 := Lib.hid hk
          clear hk
          by_cases hk : t'.op = 9
          · have tk : (t'.op == 9) = true := by simpa using hk
            have HR := Lib.hid (show ve = textV t'.op va vb by rw [HE.out, if_neg (by omega), if_neg (by omega), opV, if_neg (by omega), if_pos (by omega)])
            clear hk
            go_wp2_with (go_at_call 58; refine (ofText_c t'.op va vb _ (by omega) (by omega)).mono ?_; rintro e w1 ⟨rfl, hb1⟩; obtain ⟨hc1, hf1⟩ := bcell hb1; have hz1 := (hb1).size; (try simp at hz1); have hl10 : w.heap.size < w1.heap.size := (by omega))
            refine bodyPost_ret (by simp [results, Tryz.results27, go_sem, *]; rfl) rfl ?_
            unfold EvPost
            rw [HR.out, ← HPE.out]
            exact ⟨rfl, by (exact belQ)⟩
          have tk9 : (t'.op == 9) = false := by simpa using hk
          have hk9 := Lib.hid hk
          clear hk
          by_cases hk : t'.op = 10
          · have tk : (t'.op == 10) = true := by simpa using hk
            have HR := Lib.hid (show ve = textV t'.op va vb by rw [HE.out, if_neg (by omega), if_neg (by omega), opV, if_neg (by omega), if_pos (by omega)])
            clear hk
            go_wp2_with (go_at_call 58; refine (ofText_c t'.op va vb _ (by omega) (by omega)).mono ?_; rintro e w1 ⟨rfl, hb1⟩; obtain ⟨hc1, hf1⟩ := bcell hb1; have hz1 := (hb1).size; (try simp at hz1); have hl10 : w.heap.size < w1.heap.size := (by omega))
            refine bodyPost_ret (by simp [results, Tryz.results27, go_sem, *]; rfl) rfl ?_
            unfold EvPost
            rw [HR.out, ← HPE.out]
            exact ⟨rfl, by (exact belQ)⟩
          have tk10 : (t'.op == 10) = false := by simpa using hk
          have hk10 := Lib.hid hk
          clear hk
          by_cases hk : t'.op = 11
          · have tk : (t'.op == 11) = true := by simpa using hk
            have HR := Lib.hid (show ve = compV t'.op va vb by rw [HE.out, if_neg (by omega), if_neg (by omega), opV, if_neg (by omega), if_neg (by omega), if_pos (by omega)])
            clear hk
            go_wp2_with (go_at_call 59; refine (compare_c t'.op va vb _).mono ?_; rintro e w1 ⟨rfl, hb1⟩; obtain ⟨hc1, hf1⟩ := bcell hb1; have hz1 := (hb1).size; (try simp at hz1); have hl10 : w.heap.size < w1.heap.size := (by omega))
            refine bodyPost_ret (by simp [results, Tryz.results27, go_sem, *]; rfl) rfl ?_
            unfold EvPost
            rw [HR.out, ← HPE.out]
            exact ⟨rfl, by (exact belQ)⟩
          have tk11 : (t'.op == 11) = false := by simpa using hk
          have hk11 := Lib.hid hk
          clear hk
          by_cases hk : t'.op = 12
          · have tk : (t'.op == 12) = true := by simpa using hk
            have HR := Lib.hid (show ve = compV t'.op va vb by rw [HE.out, if_neg (by omega), if_neg (by omega), opV, if_neg (by omega), if_neg (by omega), if_pos (by omega)])
            clear hk
            go_wp2_with (go_at_call 59; refine (compare_c t'.op va vb _).mono ?_; rintro e w1 ⟨rfl, hb1⟩; obtain ⟨hc1, hf1⟩ := bcell hb1; have hz1 := (hb1).size; (try simp at hz1); have hl10 : w.heap.size < w1.heap.size := (by omega))
            refine bodyPost_ret (by simp [results, Tryz.results27, go_sem, *]; rfl) rfl ?_
            unfold EvPost
            rw [HR.out, ← HPE.out]
            exact ⟨rfl, by (exact belQ)⟩
          have tk12 : (t'.op == 12) = false := by simpa using hk
          have hk12 := Lib.hid hk
          clear hk
          by_cases hk : t'.op = 3
          · have tk : (t'.op == 3) = true := by simpa using hk
            have HR := Lib.hid (show ve = numsV t'.op va va by rw [HE.out, if_neg (by omega), if_neg (by omega), opV, if_neg (by omega), if_neg (by omega), if_neg (by omega), if_pos (by omega)])
            clear hk
            go_wp2_with (go_at_call 60; refine (ofNumbers_c t'.op va va _ na na).mono ?_; rintro e w1 ⟨rfl, hb1⟩; obtain ⟨hc1, hf1⟩ := bcell hb1; have hz1 := (hb1).size; (try simp at hz1); have hl10 : w.heap.size < w1.heap.size := (by omega))
            refine bodyPost_ret (by simp [results, Tryz.results27, go_sem, *]; rfl) rfl ?_
            unfold EvPost
            rw [HR.out, ← HPE.out]
            exact ⟨rfl, by (exact belQ)⟩
          have tk3 : (t'.op == 3) = false := by simpa using hk
          have hk3 := Lib.hid hk
          clear hk
          by_cases hk : t'.op = 13
          · have tk : (t'.op == 13) = true := by simpa using hk
            have HR := Lib.hid (show ve = numsV t'.op va va by rw [HE.out, if_neg (by omega), if_neg (by omega), opV, if_neg (by omega), if_neg (by omega), if_neg (by omega), if_pos (by omega)])
            clear hk
            go_wp2_with (go_at_call 60; refine (ofNumbers_c t'.op va va _ na na).mono ?_; rintro e w1 ⟨rfl, hb1⟩; obtain ⟨hc1, hf1⟩ := bcell hb1; have hz1 := (hb1).size; (try simp at hz1); have hl10 : w.heap.size < w1.heap.size := (by omega))
            refine bodyPost_ret (by simp [results, Tryz.results27, go_sem, *]; rfl) rfl ?_
            unfold EvPost
            rw [HR.out, ← HPE.out]
            exact ⟨rfl, by (exact belQ)⟩
          have tk13 : (t'.op == 13) = false := by simpa using hk
          have hk13 := Lib.hid hk
          clear hk
          have HR := Lib.hid (show ve = numsV t'.op va vb by
            have := hk1.out; have := hk2.out; have := hk14.out; have := hk15.out; have := hk16.out; have := hk17.out; have := hk18.out; have := hk8.out; have := hk9.out; have := hk10.out; have := hk11.out; have := hk12.out; have := hk3.out; have := hk13.out
            rw [HE.out, if_neg (by omega), if_neg (by omega), opV, if_neg (by omega), if_neg (by omega), if_neg (by omega), if_neg (by omega)])
          go_wp2_with (go_at_call 60; refine (ofNumbers_c t'.op va vb _ na nb).mono ?_; rintro e w1 ⟨rfl, hb1⟩; obtain ⟨hc1, hf1⟩ := bcell hb1; have hz1 := (hb1).size; (try simp at hz1); have hl10 : w.heap.size < w1.heap.size := (by omega))
          refine bodyPost_ret (by simp [results, Tryz.results27, go_sem, *]; rfl) rfl ?_
          unfold EvPost
          rw [HR.out, ← HPE.out]
          exact ⟨rfl, by (exact belQ)⟩
theorem idle_Eval (w : World) : CallsD Tryz.prog 25 #[] .returning w fun e u' w' => e = .returned (.tuple #[]) ∧ u' = .returning ∧ w' = w := by
  refine callsD_of_wpS Tryz.func25 rfl fun c₀ cs hu => ?_
  apply wpS_region
  cases c₀
  simp_all [wpOpsS, go_sem, recoverD, Tryz.ntmps25, bodyPostS, results, Tryz.results25]
theorem xeval (A R : Option Addr) (n c m d : Nat) (es : List T) (row : List V) (w : World) (hn : n ≤ maxLen) (hm : m ≤ maxLen) (hr : RowT w w.heap.size A n es) (hv : Row w w.heap.size R m row) : Calls Tryz.prog 12 #[.slice A n c, .slice R m d] w fun e w' => e = .returned (.agg #[.int .i64 (evalE es row).k, .int .i64 (evalE es row).n, .string (evalE es row).s]) ∧ Below w.heap.size w w' := by
  have hmf : ∀ (fn : Fn) (first cap : Array Value) (w : World), (Instr.makeFunc fn first cap).run Tryz.prog w = .ok (.func fn first cap) w := fun _ _ _ _ => rfl
  have hr1 := (hr.keep (w' := w.alloc (.cells #[.int .i64 0, .int .i64 0, .string ⟨#[]⟩] 36)) fun p hp => World.cell?_alloc_lt w _ p hp).more (show w.heap.size ≤ (w.alloc (.cells #[.int .i64 0, .int .i64 0, .string ⟨#[]⟩] 36)).heap.size by simp)
  have hv1 := (hv.keep (w' := w.alloc (.cells #[.int .i64 0, .int .i64 0, .string ⟨#[]⟩] 36)) fun p hp => World.cell?_alloc_lt w _ p hp).more (show w.heap.size ≤ (w.alloc (.cells #[.int .i64 0, .int .i64 0, .string ⟨#[]⟩] 36)).heap.size by simp)
  have hvd := xvalidE A n c es (w.alloc (.cells #[.int .i64 0, .int .i64 0, .string ⟨#[]⟩] 36)) hn hr1
  cases hval : validE es
  · rw [hval] at hvd
    have HR := Lib.hid (show evalE es row = V.null by unfold evalE; rw [treeE_bad hval])
    clear hval
    go_enter_defers Tryz.func12, Tryz.ntmps12
    go_wp2_with (go_at_call 26; refine hvd.mono ?_; rintro e w1 ⟨rfl, hb1⟩; obtain ⟨hc1, hf1⟩ := bcell hb1; have hz1 := (hb1).size; (try simp at hz1); have hl10 : w.heap.size < w1.heap.size := (by omega))
    refine leave_idle idle_Eval (by simp [go_sem]) (by simp [results, Tryz.results12, go_sem, *]; rfl) ?_
    rw [HR.out]
    exact ⟨rfl, by (exact belQ)⟩
  · rw [hval] at hvd
    obtain ⟨x, hx, hfl, hw, hd, hl⟩ := treeE_ok hval
    have hl2 := hr.len
    have HR := Lib.hid (show evalE es row = x.ev row by unfold evalE; rw [hx])
    have hev := fun w1 hr1 hv1 => evalAt_c A R n c m d es row (by omega) hm 16 x [] 0 w1 hd hw (by simpa using hfl) hr1 hv1
    clear hval hx hfl hw hd hl hl2
    go_enter_defers Tryz.func12, Tryz.ntmps12
    go_wp2_with (first
      | (go_at_call 26; refine hvd.mono ?_; rintro e w1 ⟨rfl, hb1⟩; obtain ⟨hc1, hf1⟩ := bcell hb1; have hz1 := (hb1).size; (try simp at hz1); have hl10 : w.heap.size < w1.heap.size := (by omega))
      | (go_at_call 27; refine (hev w1 ((hr1.below hb1).more hb1.size) ((hv1.below hb1).more hb1.size)).mono ?_; rintro e w2 ⟨rfl, hb2⟩; obtain ⟨hc2, hf2⟩ := bcell hb2; have hz2 := (hb2).size; (try simp at hz2); have hl20 : w.heap.size < w2.heap.size := (by omega)))
    refine leave_idle idle_Eval (by simp [go_sem]) (by simp [results, Tryz.results12, go_sem, *]; rfl) ?_
    rw [HR.out]
    exact ⟨rfl, by (exact belQ)⟩
theorem RowOf.to {α : Type} {cells : α → List Value} {w w' : World} {A : Option Addr} {n : Nat} {xs : List α} (h : RowOf cells w w.heap.size A n xs) (hb : Below w.heap.size w w') : RowOf cells w' w'.heap.size A n xs := (h.below hb).more hb.size
abbrev RowI := @RowOf Int (fun z => [Value.int .i64 z])
theorem RowI.at1 {w : World} {B n : Nat} {A : Option Addr} {zs : List Int} (h : RowI w B A n zs) {k : Nat} (hk : k < n) :
   ∃ b off z, A = some ⟨b, off, none⟩ ∧ b < B ∧ zs[k]? = some z ∧ w.cell? ⟨b, off + k, none⟩ = some (.int .i64 z) := by
  obtain ⟨b, off, s, h1, h2, h3, h4⟩ := h.at_ 1 (fun _ => rfl) (by omega) hk
  have := h4 0 _ rfl
  rw [Nat.mul_one] at this
  exact ⟨b, off, s, h1, h2, h3, this⟩
theorem flats_two (a b : List X) : flats (a ++ b) = flats a ++ flats b := by
  induction a with
  | nil => simp [flats]
  | cons y ys ih => simp only [List.cons_append, flats_cons, ih, List.append_assoc]
theorem flats_takes (ks : List X) (i : Nat) : (flats (ks.take i)).length ≤ (flats ks).length := by
  have := flats_two (ks.take i) (ks.drop i)
  rw [List.take_append_drop] at this
  rw [this, List.length_append]
  omega
end Go.Proofs.YtpnfbehbheddeaaGreatDoor
