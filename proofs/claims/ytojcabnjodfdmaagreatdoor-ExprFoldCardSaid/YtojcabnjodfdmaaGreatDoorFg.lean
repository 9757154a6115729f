/- Contracts of the program's typeAt and Type: rows of at most a thousand terms. -/
import Derived.Test.YtojcabnjodfdmaaGreatDoorFf
namespace Go.Proofs.YtojcabnjodfdmaaGreatDoor
open Go.RowKit

theorem tys_succ {types : List Int} {ks : List X} {i : Nat} {k : X} {l : List Int} {a : Int} (h : tys types (ks.take i) = .ok l) (hk : ks[i]? = some k) (ha : k.ty types = .ok a) : tys types (ks.take (i + 1)) = .ok (l ++ [a]) := by
  rw [List.take_add_one, hk, Option.toList_some, tys_snoc, h, ha]
theorem tys_stop {types : List Int} : ∀ (xs ys : List X) (er : Int), tys types xs = .error er → tys types (xs ++ ys) = .error er := by
  intro xs
  induction xs with
  | nil => intro ys er h; simp [tys] at h
  | cons x xs ih =>
    intro ys er h
    simp only [List.cons_append, tys] at h ⊢
    cases hx : x.ty types with
    | error e => rw [hx] at h; simpa using h
    | ok a =>
      rw [hx] at h
      simp only at h ⊢
      cases hl : tys types xs with
      | error e => rw [hl] at h; rw [ih ys e hl]; simpa using h
      | ok l => rw [hl] at h; cases h
theorem tys_fail {types : List Int} {ks : List X} {i : Nat} {k : X} {l : List Int} {er : Int} (h : tys types (ks.take i) = .ok l) (hk : ks[i]? = some k) (ha : k.ty types = .error er) : tys types ks = .error er := by
  have h1 : tys types (ks.take (i + 1)) = .error er := by
    rw [List.take_add_one, hk, Option.toList_some, tys_snoc, h, ha]
  have h2 := tys_stop (ks.take (i + 1)) (ks.drop (i + 1)) er h1
  rwa [List.take_append_drop] at h2
theorem getD_snocI (l : List Int) (v : Int) (j : Nat) : (l ++ [v]).getD j 0 = if j = l.length then v else l.getD j 0 := by
  simp only [List.getD_eq_getElem?_getD]
  split
  · rename_i h; subst h; simp
  · rename_i h
    rcases Nat.lt_or_ge j l.length with h1 | h1
    · rw [List.getElem?_append_left h1]
    · rw [List.getElem?_append_right h1, List.getElem?_eq_none (l := l) h1, List.getElem?_eq_none (by simp; omega)]
theorem termT_err (types : List Int) (t : T) (l : List Int) (er : Int) (h : termT types t l = .error er) : er = 3 ∨ er = 5 := by
  have ite5 : ∀ (p : Prop) [Decidable p] (k : Int), (if p then (Except.ok k : Except Int Int) else .error 5) = .error er → er = 3 ∨ er = 5 := by
    intro p _ k hk
    split at hk
    · cases hk
    · injection hk with hk; omega
  unfold termT at h
  split at h
  · injection h with h; omega
  · split at h
    · cases h
    · split at h
      · cases h
      · unfold opT at h
        repeat (first | exact ite5 _ _ h | (cases h; done) | (split at h; · exact ite5 _ _ h) | (split at h; · cases h))
mutual
theorem X.ty_err (types : List Int) (x : X) (er : Int) (h : x.ty types = .error er) : er = 3 ∨ er = 5 := by
  match x with
  | .node t ks =>
    rw [X.ty] at h
    cases hl : tys types ks with
    | error e => rw [hl] at h; simp at h; subst h; exact tys_err types ks e hl
    | ok l =>
      rw [hl] at h
      simp only at h
      exact termT_err types t l er h
theorem tys_err (types : List Int) (xs : List X) (er : Int) (h : tys types xs = .error er) : er = 3 ∨ er = 5 := by
  match xs with
  | [] => simp [tys] at h
  | x :: xs =>
    rw [tys] at h
    cases hx : x.ty types with
    | error e => rw [hx] at h; simp at h; subst h; exact X.ty_err types x e hx
    | ok a =>
      rw [hx] at h
      simp only at h
      cases hl : tys types xs with
      | error e => rw [hl] at h; simp at h; subst h; exact tys_err types xs e hl
      | ok l => rw [hl] at h; cases h
end
/-- The type, the position behind, the error's number. -/
def TyPost (w : World) (r : Except Int Int) (pe : Nat) (e : Ending) (w' : World) : Prop := ∃ (k p er : Int), e = .returned (.tuple #[.int .i64 k, .int .i64 p, .int .i64 er]) ∧ (match r with | .ok k' => k = k' ∧ p = pe ∧ er = 0 | .error e' => k = 0 ∧ p = 0 ∧ er = e' ∧ (e' = 3 ∨ e' = 5)) ∧ Below w.heap.size w w'
/-- What lies in typeAt's own blocks: the term's, the operands'. -/
structure Ty3 (w wr : World) (t : T) (l : List Int) : Prop where
  bel : Below w.heap.size w wr
  sz : w.heap.size + 2 ≤ wr.heap.size
  fr : ∀ i, wr.frozen? ⟨w.heap.size + 1, i, none⟩ = false
  t0 : wr.cell? ⟨w.heap.size, 0, none⟩ = some (.int .i64 t.op)
  t1 : wr.cell? ⟨w.heap.size, 1, none⟩ = some (.int .i64 t.v.k)
  t2 : wr.cell? ⟨w.heap.size, 2, none⟩ = some (.int .i64 t.v.n)
  t3 : wr.cell? ⟨w.heap.size, 3, none⟩ = some (.string t.v.s)
  t4 : wr.cell? ⟨w.heap.size, 4, none⟩ = some (.int .i64 t.c)
  o0 : wr.cell? ⟨w.heap.size + 1, 0, none⟩ = some (.int .i64 (l.getD 0 0))
  o1 : wr.cell? ⟨w.heap.size + 1, 1, none⟩ = some (.int .i64 (l.getD 1 0))
  o2 : wr.cell? ⟨w.heap.size + 1, 2, none⟩ = some (.int .i64 (l.getD 2 0))
def TyRel (w : World) (t : T) (types : List Int) (ks : List X) (pos : Nat) (v10 v27 : Value) (wr : World) : Prop := ∃ (i p : Nat) (l : List Int), i ≤ ks.length ∧ v27 = .int .i64 (i : Int) ∧ v10 = .int .i64 (p : Int) ∧ p = pos + 1 + (flats (ks.take i)).length ∧ tys types (ks.take i) = .ok l ∧ l.length = i ∧ Ty3 w wr t l
set_option maxRecDepth 100000 in
set_option maxHeartbeats 8000000 in
theorem typeAt_c (A R : Option Addr) (n c m d : Nat) (es : List T) (types : List Int) (hn : n ≤ 1000) (hm : m ≤ maxLen) : ∀ (f : Nat) (x : X) (r : List T) (pos : Nat) (w : World), x.depth ≤ f → x.wf = true → es.drop pos = x.flat ++ r → RowT w w.heap.size A n es → RowI w w.heap.size R m types → Calls Tryz.prog 30 #[.slice A n c, .int .i64 (pos : Int), .slice R m d] w (TyPost w (x.ty types) (pos + x.flat.length)) := by
  intro f
  induction f with
  | zero => intro x r pos w hd; have := x.depth_pos; omega
  | succ f ih =>
    intro x r pos w hd hw hx hr hv
    obtain ⟨t, ks⟩ := x
    have hlen := congrArg List.length hx
    rw [List.length_drop, X.flat_node, List.length_append, List.length_cons, hr.len] at hlen
    have hlt : pos < n := by omega
    obtain ⟨b, off, t', rfl, hb, ht, c0, c1, c2, c3, c4⟩ := RowT.at5 hr hlt
    have htt : t' = t := by
      have h2 := drop_term ht
      rw [hx, X.flat_node, List.cons_append] at h2
      injection h2 with h2 _
      exact h2.symm
    subst htt
    have hp0 : (0 : Int) ≤ (pos : Int) := by omega
    have hp1 : (pos : Int) < (n : Int) := by omega
    have hpw : IntKind.i64.wrap ((pos : Int) + 1) = (pos : Int) + 1 := IntWalk.i64_in _ (by omega)
    have hw2 := hw
    simp only [X.wf, Bool.and_eq_true, decide_eq_true_eq] at hw2
    obtain ⟨hok, hkl, hkw⟩ := hw2
    have hak : 0 ≤ arity t'.op := by
      rw [T.ok_fok, Bool.and_eq_true, decide_eq_true_eq] at hok
      exact hok.1
    have HN := Lib.hid (show arity t'.op = (ks.length : Int) by rw [hkl]; unfold ar; omega)
    have har := arity_range t'.op
    have hk3 : ks.length ≤ 3 := by have := HN.out; omega
    simp only [X.depth] at hd
    have HX := Lib.hid hx
    have HK := Lib.hid hok
    have HW := Lib.hid hkw
    have HFL := Lib.hid hlen
    have HP := Lib.hid (show pos + (X.node t' ks).flat.length = pos + 1 + (flats ks).length by rw [X.flat_node, List.length_cons]; omega)
    have HE := Lib.hid (show (X.node t' ks).ty types = (match tys types ks with | .error e => .error e | .ok l => termT types t' l) by rw [X.ty]; cases tys types ks <;> rfl)
    generalize pos + (X.node t' ks).flat.length = pe at HP
    generalize (X.node t' ks).ty types = ve at HE
    have hop := term_op hok
    have hp1' : w.heap.size < w.heap.size + 1 + 1 := by omega
    clear ht hx hok hkw hw hkl hlen
    go_enter Tryz.func30, Tryz.ntmps30
    go_wp2_with (go_at_call 42; refine (xarity t'.op _).mono ?_; rintro e w1 ⟨rfl, rfl⟩; rw [HN.out])
    go_loopw [10, 27] (fun v10 v27 wr => TyRel w t' types ks pos v10 v27 wr) (fun _ v27 _ => ks.length - (intOf v27).toNat)
    case atStart =>
      refine ⟨0, pos + 1, [], Nat.zero_le _, rfl, by go_num, by simp [flats], by simp [tys], rfl, ?_⟩
      constructor
      · (repeat (first | (with_reducible exact Below.refl _ _) | (with_reducible assumption) | (with_reducible refine Below.drew ?_) | (with_reducible refine below_drewN ?_ _) | ((with_reducible refine Below.setCell ?_ ?_ _); rotate_left; (focus (first | (simp; done) | (simp; omega) | omega))) | ((with_reducible refine Below.alloc ?_ ?_ _); rotate_left; (focus (first | (simp; done) | (simp; omega) | omega))) | ((with_reducible apply below_step1); (focus (with_reducible assumption)))))
      · simp
      all_goals (first | (intro i; simp [go_sem]; done) | (simp [go_sem]; done))
    case round =>
      obtain ⟨i, p, l, hi, rfl, rfl, hp, htl, hll, h3⟩ := hrel
      obtain ⟨hbel, hsz, fr, t0, t1, t2, t3, t4, o0, o1, o2⟩ := h3
      have hzz := hbel.size
      have hs0 : w.heap.size < wr.heap.size := by omega
      have hs1 : w.heap.size + 1 < wr.heap.size := by omega
      have HTL := Lib.hid htl
      have HLL := Lib.hid hll
      clear htl hll
      by_cases hlt2 : i < ks.length
      · have hia : (i : Int) < (ks.length : Int) := by omega
        have hki : ks[i]? = some ks[i] := List.getElem?_eq_getElem hlt2
        generalize ks[i] = k at hki
        obtain ⟨k1, k2, k3⟩ := kid_in hki
        have hka := kid_at HX.out hki
        rw [← hp] at hka
        have ihe := ih k _ p wr (by omega) (k2 HW.out) hka ((hr.below hbel).more hzz) ((hv.below hbel).more hzz)
        have hbnd : p + k.flat.length ≤ 1000 := by
          have h2 := congrArg List.length hka
          rw [List.length_drop, List.length_append, hr.len] at h2
          have h4 := k.flat_pos
          omega
        have HP1 := Lib.hid (show p + k.flat.length = pos + 1 + (flats (ks.take (i + 1))).length by omega)
        generalize p + k.flat.length = p1 at ihe hbnd HP1
        have HKI := Lib.hid hki
        cases hkt : k.ty types with
        | error er =>
          rw [hkt] at ihe
          have hne := X.ty_err types k er hkt
          have HR := Lib.hid (show ve = .error er by rw [HE.out, tys_fail HTL.out hki hkt])
          have ter : (er != 0) = true := by rw [bne_iff_ne]; omega
          clear hka hki k1 k2 k3 hp hr hv ih hkt
          go_wp2_with (go_at_call 30; refine ihe.mono ?_; rintro e2 w2 ⟨kk, kp, ke, rfl, ⟨rfl, rfl, rfl, _⟩, hb2⟩)
          refine bodyPost_ret (by simp [results, Tryz.results30, go_sem]; rfl) rfl ?_
          rw [HR.out]
          exact ⟨0, 0, _, rfl, ⟨rfl, rfl, rfl, hne⟩, by (repeat (first | (with_reducible exact Below.refl _ _) | (with_reducible assumption) | (with_reducible refine Below.drew ?_) | (with_reducible refine below_drewN ?_ _) | ((with_reducible refine Below.setCell ?_ ?_ _); rotate_left; (focus (first | (simp; done) | (simp; omega) | omega))) | ((with_reducible refine Below.alloc ?_ ?_ _); rotate_left; (focus (first | (simp; done) | (simp; omega) | omega))) | ((with_reducible apply below_step1); (focus (with_reducible assumption)))))⟩
        | ok kt =>
          rw [hkt] at ihe
          have HS := Lib.hid (tys_succ HTL.out hki hkt)
          have HG := Lib.hid (getD_snocI l kt)
          rw [HLL.out] at HG
          clear hka hki k1 k2 k3 hp hr hv ih hkt
          obtain rfl | rfl | rfl : i = 0 ∨ i = 1 ∨ i = 2 := by omega
          all_goals go_wp2_with (go_at_call 30; refine ihe.mono ?_; rintro e2 w2 ⟨kk, kp, ke, rfl, ⟨rfl, rfl, rfl⟩, hb2⟩; obtain ⟨hc2, hf2⟩ := bcell hb2; have hz2 := (hb2).size; (try simp at hz2); have hl20 : w.heap.size < w2.heap.size := (by omega); have hl21 : w.heap.size + 1 < w2.heap.size := (by omega))
          · refine ⟨⟨1, p1, l ++ [kk], by omega, rfl, rfl, HP1.out, HS.out, by simp [HLL.out], ?_⟩, by simp [intOf]; omega⟩
            constructor
            · (repeat (first | (with_reducible exact Below.refl _ _) | (with_reducible assumption) | (with_reducible refine Below.drew ?_) | (with_reducible refine below_drewN ?_ _) | ((with_reducible refine Below.setCell ?_ ?_ _); rotate_left; (focus (first | (simp; done) | (simp; omega) | omega))) | ((with_reducible refine Below.alloc ?_ ?_ _); rotate_left; (focus (first | (simp; done) | (simp; omega) | omega))) | ((with_reducible apply below_step1); (focus (with_reducible assumption)))))
            · simp; omega
            all_goals (first | (intro i; simp [go_sem, *]; done) | (rw [HG.out]; simp [go_sem, *]; done) | (simp [go_sem, *]; done))
          · refine ⟨⟨2, p1, l ++ [kk], by omega, rfl, rfl, HP1.out, HS.out, by simp [HLL.out], ?_⟩, by simp [intOf]; omega⟩
            constructor
            · (repeat (first | (with_reducible exact Below.refl _ _) | (with_reducible assumption) | (with_reducible refine Below.drew ?_) | (with_reducible refine below_drewN ?_ _) | ((with_reducible refine Below.setCell ?_ ?_ _); rotate_left; (focus (first | (simp; done) | (simp; omega) | omega))) | ((with_reducible refine Below.alloc ?_ ?_ _); rotate_left; (focus (first | (simp; done) | (simp; omega) | omega))) | ((with_reducible apply below_step1); (focus (with_reducible assumption)))))
            · simp; omega
            all_goals (first | (intro i; simp [go_sem, *]; done) | (rw [HG.out]; simp [go_sem, *]; done) | (simp [go_sem, *]; done))
          · refine ⟨⟨3, p1, l ++ [kk], by omega, rfl, rfl, HP1.out, HS.out, by simp [HLL.out], ?_⟩, by simp [intOf]; omega⟩
            constructor
            · (repeat (first | (with_reducible exact Below.refl _ _) | (with_reducible assumption) | (with_reducible refine Below.drew ?_) | (with_reducible refine below_drewN ?_ _) | ((with_reducible refine Below.setCell ?_ ?_ _); rotate_left; (focus (first | (simp; done) | (simp; omega) | omega))) | ((with_reducible refine Below.alloc ?_ ?_ _); rotate_left; (focus (first | (simp; done) | (simp; omega) | omega))) | ((with_reducible apply below_step1); (focus (with_reducible assumption)))))
            · simp; omega
            all_goals (first | (intro i; simp [go_sem, *]; done) | (rw [HG.out]; simp [go_sem, *]; done) | (simp [go_sem, *]; done))
      · have hia : ¬ (i : Int) < (ks.length : Int) := by omega
        obtain rfl : i = ks.length := by omega
        have htl := HTL.out
        rw [List.take_length] at hp htl
        have HPE := Lib.hid (show p = pe by rw [hp, HP.out])
        have HE2 := Lib.hid (show ve = termT types t' l by rw [HE.out, htl])
        have hll := HLL.out
        have HE3 := Lib.hid (show termT types t' l = termT types t' [l.getD 0 0, l.getD 1 0, l.getD 2 0] by
          unfold termT
          rfl)
        rw [HE3.out] at HE2
        generalize l.getD 0 0 = a0 at o0 HE2
        generalize l.getD 1 0 = a1 at o1 HE2
        generalize l.getD 2 0 = a2 at o2 HE2
        have hlm := hv.len
        have hrow := (hv.below hbel).more hzz
        have hrt := fun hc => resultType_c R m d types t' a0 a1 a2 wr hm hop hc hrow
        have htc := fun h2 => (term_col HK.out h2).1
        clear hp ih hlt2 HE3 HTL HLL htl hll hr hv
        unfold maxLen at hm
        by_cases h2 : t'.op = 2
        · have t2' : (t'.op == 2) = true := by simpa using h2
          have hc0 := htc h2
          by_cases hcm : t'.c ≥ (m : Int)
          · have HR := Lib.hid (show ve = .error 3 by rw [HE2.out]; unfold termT; rw [if_pos ⟨h2, by omega⟩])
            have hcm2 : (m : Int) ≤ t'.c := hcm
            clear h2 hrt hlm
            go_wp2_with fail
            refine bodyPost_ret (by simp [results, Tryz.results30, go_sem]; rfl) rfl ?_
            rw [HR.out]
            exact ⟨0, 0, 3, rfl, ⟨rfl, rfl, rfl, .inl rfl⟩, by (repeat (first | (with_reducible exact Below.refl _ _) | (with_reducible assumption) | (with_reducible refine Below.drew ?_) | (with_reducible refine below_drewN ?_ _) | ((with_reducible refine Below.setCell ?_ ?_ _); rotate_left; (focus (first | (simp; done) | (simp; omega) | omega))) | ((with_reducible refine Below.alloc ?_ ?_ _); rotate_left; (focus (first | (simp; done) | (simp; omega) | omega))) | ((with_reducible apply below_step1); (focus (with_reducible assumption)))))⟩
          · have hcm2 : ¬ (m : Int) ≤ t'.c := hcm
            have hrt2 := hrt (fun _ => ⟨hc0, by omega⟩)
            clear h2 hrt hlm hcm
            go_wp2_with fail
            refine hrt2.mono ?_
            rintro e w3 ⟨kk, ok, rfl, hT, hb3⟩
            have HT3 := Lib.hid hT
            clear hT
            cases ok
            · go_wp2_with fail
              refine bodyPost_ret (by simp [results, Tryz.results30, go_sem]; rfl) rfl ?_
              rw [HE2.out, HT3.out]
              exact ⟨0, 0, 5, rfl, ⟨rfl, rfl, rfl, .inr rfl⟩, by (repeat (first | (with_reducible exact Below.refl _ _) | (with_reducible assumption) | (with_reducible refine Below.drew ?_) | (with_reducible refine below_drewN ?_ _) | ((with_reducible refine Below.setCell ?_ ?_ _); rotate_left; (focus (first | (simp; done) | (simp; omega) | omega))) | ((with_reducible refine Below.alloc ?_ ?_ _); rotate_left; (focus (first | (simp; done) | (simp; omega) | omega))) | ((with_reducible apply below_step1); (focus (with_reducible assumption)))))⟩
            · go_wp2_with fail
              refine bodyPost_ret (by simp [results, Tryz.results30, go_sem]; rfl) rfl ?_
              rw [HE2.out, HT3.out]
              exact ⟨kk, p, 0, rfl, ⟨rfl, by rw [HPE.out], rfl⟩, by (repeat (first | (with_reducible exact Below.refl _ _) | (with_reducible assumption) | (with_reducible refine Below.drew ?_) | (with_reducible refine below_drewN ?_ _) | ((with_reducible refine Below.setCell ?_ ?_ _); rotate_left; (focus (first | (simp; done) | (simp; omega) | omega))) | ((with_reducible refine Below.alloc ?_ ?_ _); rotate_left; (focus (first | (simp; done) | (simp; omega) | omega))) | ((with_reducible apply below_step1); (focus (with_reducible assumption)))))⟩
        · have t2' : (t'.op == 2) = false := by simpa using h2
          have hrt2 := hrt (fun h => absurd h h2)
          clear h2 hrt hlm
          go_wp2_with fail
          refine hrt2.mono ?_
          rintro e w3 ⟨kk, ok, rfl, hT, hb3⟩
          have HT3 := Lib.hid hT
          clear hT
          cases ok
          · go_wp2_with fail
            refine bodyPost_ret (by simp [results, Tryz.results30, go_sem]; rfl) rfl ?_
            rw [HE2.out, HT3.out]
            exact ⟨0, 0, 5, rfl, ⟨rfl, rfl, rfl, .inr rfl⟩, by (repeat (first | (with_reducible exact Below.refl _ _) | (with_reducible assumption) | (with_reducible refine Below.drew ?_) | (with_reducible refine below_drewN ?_ _) | ((with_reducible refine Below.setCell ?_ ?_ _); rotate_left; (focus (first | (simp; done) | (simp; omega) | omega))) | ((with_reducible refine Below.alloc ?_ ?_ _); rotate_left; (focus (first | (simp; done) | (simp; omega) | omega))) | ((with_reducible apply below_step1); (focus (with_reducible assumption)))))⟩
          · go_wp2_with fail
            refine bodyPost_ret (by simp [results, Tryz.results30, go_sem]; rfl) rfl ?_
            rw [HE2.out, HT3.out]
            exact ⟨kk, p, 0, rfl, ⟨rfl, by rw [HPE.out], rfl⟩, by (repeat (first | (with_reducible exact Below.refl _ _) | (with_reducible assumption) | (with_reducible refine Below.drew ?_) | (with_reducible refine below_drewN ?_ _) | ((with_reducible refine Below.setCell ?_ ?_ _); rotate_left; (focus (first | (simp; done) | (simp; omega) | omega))) | ((with_reducible refine Below.alloc ?_ ?_ _); rotate_left; (focus (first | (simp; done) | (simp; omega) | omega))) | ((with_reducible apply below_step1); (focus (with_reducible assumption)))))⟩

/-- The type of an expression, or the error's number. -/
def typeE (es : List T) (types : List Int) : Int × Int := match treeE es with
  | none => (0, 1)
  | some x => if types.all (fun z => z == 1 || z == 2) = false then (0, 1) else match x.ty types with
    | .ok k => (k, 0)
    | .error e => (0, e)
theorem idle_Type (w : World) : CallsD Tryz.prog 29 #[] .returning w fun e u' w' => e = .returned (.tuple #[]) ∧ u' = .returning ∧ w' = w := by
  refine callsD_of_wpS Tryz.func29 rfl fun c₀ cs hu => ?_
  apply wpS_region
  cases c₀
  simp_all [wpOpsS, go_sem, recoverD, Tryz.ntmps29, bodyPostS, results, Tryz.results29]
def TyePost (w : World) (x : Int × Int) (e : Ending) (w' : World) : Prop := e = .returned (.tuple #[.int .i64 x.1, .int .i64 x.2]) ∧ Below w.heap.size w w'
end Go.Proofs.YtojcabnjodfdmaaGreatDoor
