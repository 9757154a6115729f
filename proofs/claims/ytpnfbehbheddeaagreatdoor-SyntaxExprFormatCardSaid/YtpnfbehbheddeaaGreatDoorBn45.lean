/- operand and tokens of the reference for the writing of expressions: valid expressions of at most a thousand terms whose columns have names. -/
import Derived.Test.YtpnfbehbheddeaaGreatDoorBn42
import Derived.Test.YtpnfbehbheddeaaGreatDoorBn33
import Derived.Test.YtpnfbehbheddeaaGreatDoorBn44
namespace Go.Proofs.YtpnfbehbheddeaaGreatDoor
set_option maxRecDepth 100000
set_option maxHeartbeats 8000000
set_option linter.unusedVariables false
set_option linter.unusedSimpArgs false
open Go.RowKit
theorem kcells_len (l : List Tk) : (l.flatMap Tk.cells).length = l.length * 4 := flatMap_len 4 (fun _ => rfl) l
theorem kcells_one (l : List Tk) : ∀ u ∈ l.flatMap Tk.cells, u.oneCell' = true := by
  intro u hu
  obtain ⟨t, -, hu⟩ := List.mem_flatMap.1 hu
  simp only [Tk.cells, List.mem_cons, List.not_mem_nil, or_false] at hu
  rcases hu with rfl | rfl | rfl | rfl <;> rfl
theorem own_tk {w : World} {base : Nat} {v : Value} {a b : List Tk} (h : w.ownsRow base 100 4 v (a.length + b.length) (a.flatMap Tk.cells ++ b.flatMap Tk.cells)) :
    ∃ A c ts, v = .slice A ts.length c ∧ Hid (ts = a ++ b) ∧ w.ownsRow base 100 4 (.slice A ts.length c) ts.length (ts.flatMap Tk.cells) := by
  obtain ⟨A, c, rfl, -, -⟩ := own_slice h
  refine ⟨A, c, a ++ b, by rw [List.length_append], Lib.hid rfl, ?_⟩
  rw [List.length_append, List.flatMap_append]
  exact h
theorem own_at0 {w : World} {base : Nat} {e : TypeId} {size m d n : Nat} {A : Option Addr} {xs : List Value} (h : w.ownsRow base e size (.slice A m d) n xs) (hn : 0 < n) : ∃ g, A = some ⟨g, 0, none⟩ := by
  rcases h.2 with ⟨e1, e2⟩ | ⟨g, cap, cur, e1, -⟩
  · omega
  · injection e1 with e1
    exact ⟨g, e1⟩
theorem HS.at_ {w : World} {l l' : List HA} {e : TypeId} {g m d n i : Nat} {xs : List Value} {u : Value} (h : HS w l) (hp : Pick l (rowA e 1 (.slice (some ⟨g, 0, none⟩) m d) n xs) l') (hu : xs[i]? = some u) : w.cell? ⟨g, i, none⟩ = some u := by
  have hc := (h.row hp).cells (g := g) (by simp [Value.ownBlock]) i u hu
  rwa [addr_add0, Nat.zero_add] at hc
theorem kidOf {w0 : World} {B b off n : Nat} (c : Nat) {t : T} {ks : List X} {i : Nat} {k : X} (hr : RowT w0 B (some ⟨b, off, none⟩) n (X.node t ks).flat) (hki : ks[i]? = some k) :
    ∃ q, q + k.flat.length ≤ n ∧ (opCells b off c 1 ks)[i]? = some (.slice (some ⟨b, off + q * 5, none⟩) k.flat.length (c - q)) ∧ RowT w0 B (some ⟨b, off + q * 5, none⟩) k.flat.length k.flat := by
  have hka := kid_at (t := t) (es := (X.node t ks).flat) (pos := 0) (r := []) (by simp) hki
  rw [Nat.zero_add] at hka
  refine ⟨1 + (flats (ks.take i)).length, ?_, opCells_at b off c ks 1 i k hki, RowT.part hr hka⟩
  have h2 := congrArg List.length hka
  rw [List.length_drop, List.length_append, hr.len] at h2
  have := k.flat_pos
  omega
theorem TrPost.done {w' : World} {l m : List HA} {L ts : List Tk} {A : Option Addr} {c : Nat} (h : sameTk ts L) (H : HS w' m) (hs : Sub (rowA 100 4 (.slice A ts.length c) ts.length (ts.flatMap Tk.cells) :: l) m) : TrPost l L (.returned (.slice A ts.length c)) w' :=
  ⟨A, c, ts, rfl, h, H.sub hs⟩
theorem fn_word {op : Int} (h : 1 ≤ op) (h2 : op ≤ 18) : ((⟨(fnW op).toArray⟩ : ByteArray) == ⟨#[]⟩) = !isFun op := by
  obtain rfl | rfl | rfl | rfl | rfl | rfl | rfl | rfl | rfl | rfl | rfl | rfl | rfl | rfl | rfl | rfl | rfl | rfl : op = 1 ∨ op = 2 ∨ op = 3 ∨ op = 4 ∨ op = 5 ∨ op = 6 ∨ op = 7 ∨ op = 8 ∨ op = 9 ∨ op = 10 ∨ op = 11 ∨ op = 12 ∨ op = 13 ∨ op = 14 ∨ op = 15 ∨ op = 16 ∨ op = 17 ∨ op = 18 := by omega
  all_goals decide
theorem fn_empty {op : Int} (h : 1 ≤ op) (h2 : op ≤ 18) : (fnW op).isEmpty = !isFun op := by
  obtain rfl | rfl | rfl | rfl | rfl | rfl | rfl | rfl | rfl | rfl | rfl | rfl | rfl | rfl | rfl | rfl | rfl | rfl : op = 1 ∨ op = 2 ∨ op = 3 ∨ op = 4 ∨ op = 5 ∨ op = 6 ∨ op = 7 ∨ op = 8 ∨ op = 9 ∨ op = 10 ∨ op = 11 ∨ op = 12 ∨ op = 13 ∨ op = 14 ∨ op = 15 ∨ op = 16 ∨ op = 17 ∨ op = 18 := by omega
  all_goals decide
theorem scan_par : sameTk (scanO [40]).1 [wdK [40]] := by unfold sameTk; kernel_rfl
theorem scan_end : sameTk (scanO [41]).1 [wdK [41]] := by unfold sameTk; kernel_rfl
theorem scan_comma : sameTk (scanO [44]).1 [wdK [44]] := by unfold sameTk; kernel_rfl
theorem scan_minus : sameTk (scanO [45]).1 [wdK [45]] := by unfold sameTk; kernel_rfl
theorem scan_not : sameTk (scanO [110, 111, 116]).1 [wdK wNot] := by unfold sameTk; kernel_rfl
theorem scan_bin {op : Int} (h : isBin op) : sameTk (scanO (binW op)).1 [wdK (opW op)] ∧ ((⟨(binW op).toArray⟩ : ByteArray) == ⟨#[]⟩) = false ∧ (binW op).length ≤ 3 := by
  unfold isBin at h
  rcases h with rfl | rfl | rfl | rfl | rfl | rfl | rfl | rfl | rfl
  all_goals exact ⟨by (unfold sameTk; kernel_rfl), by decide, by decide⟩
theorem scan_fn {op : Int} (h : isFun op = true) : sameTk (scanO (fnW op ++ [32, 40])).1 [wdK (opW op), wdK [40]] ∧ ((⟨(binW op).toArray⟩ : ByteArray) == ⟨#[]⟩) = true ∧ (fnW op).length ≤ 10 ∧ 3 ≤ op ∧ op ≤ 18 ∧ op ≠ 13 ∧ op ≠ 3 := by
  unfold isFun at h
  rw [decide_eq_true_eq] at h
  rcases h with rfl | rfl | rfl | rfl | rfl
  all_goals exact ⟨by (unfold sameTk; kernel_rfl), by decide, by decide, by decide, by decide, by decide, by decide⟩
theorem roperand_c {w0 w : World} {l l' : List HA} {b off n c : Nat} {LA DA : Option Addr} {ln lc rn rc : Nat} {left right : List Bs} (x : X) (neg : Bool) (hw : x.wf = true) (hlen : (x.wr left right).length ≤ 5000)
    (hr : RowT w0 w0.heap.size (some ⟨b, off, none⟩) n x.flat) (ho : Pick l (oldA w0) l')
    (hT : Calls Tryz.prog 39 #[.slice (some ⟨b, off, none⟩) n c, .slice LA ln lc, .slice DA rn rc] w (TrPost l (x.wr left right))) :
    Calls Tryz.prog 76 #[.slice (some ⟨b, off, none⟩) n c, .slice LA ln lc, .slice DA rn rc, .bool neg] w (TrPost l (operW x neg (x.wr left right))) := by
  obtain ⟨t, ks⟩ := x
  have hok : t.ok = true := by
    simp only [X.wf, Bool.and_eq_true, decide_eq_true_eq] at hw
    exact hw.1
  have hop := term_op hok
  have HE := Lib.hid (show operW (.node t ks) neg ((X.node t ks).wr left right) = if bareW t neg = true then (X.node t ks).wr left right else wdK [40] :: ((X.node t ks).wr left right ++ [wdK [41]]) from rfl)
  have hrb := fun w1 (hb : Below w0.heap.size w0 w1) => RowT.head5 (by rw [← X.flat_node]; exact (hr.below hb).more hb.size)
  generalize (X.node t ks).wr left right = W at hT HE hlen
  have hF := fun w => rfunction_c t.op w hop.1 hop.2
  unfold BwPost at hF
  have hfw := fn_word hop.1 hop.2
  have hn1 : 0 < n := by have := hr.len; rw [X.flat_node] at this; simp at this; omega
  have hi : bareW t neg = if t.op = 1 then decide (t.v.k = 2 ∨ (0 ≤ t.v.n ∧ neg = false)) else decide (t.op = 2) || isFun t.op := rfl
  have hf1 : ∀ h : t.op = 1, isFun t.op = false := fun h => by rw [h]; rfl
  obtain ⟨bw, hbw⟩ : ∃ q, bareW t neg = q := ⟨_, rfl⟩
  rw [hbw] at hi HE
  have HI := Lib.hid hi
  have hfw2 : ((⟨(fnW t.op).toArray⟩ : ByteArray) != ⟨#[]⟩) = isFun t.op := by unfold bne; rw [hfw]; simp
  have hfe := fn_empty hop.1 hop.2
  generalize fnW t.op = fw at hF hfw hfw2 hfe
  clear hr hw hok hi hbw
  go_enter Tryz.func76, Tryz.ntmps76
  go_upto_region 2 with (go_at_call 39; refine hT.mono ?_; rintro e w1 ⟨A1, c1, t1, rfl, s1, H1⟩; have hb1 := H1.old (.there ho); obtain ⟨b', off', e1, hbb, d0, d1, d2, d3, d4⟩ := hrb w1 hb1; injection e1 with e1; injection e1 with e1 e2; subst e1 e2)
  have n1 : t1.length ≤ 5000 := by rw [sameTk_len s1]; exact hlen
  go_cut [10] (fun v10 wx => v10 = .bool bw ∧ HS wx (rowA 100 4 (.slice A1 t1.length c1) t1.length (t1.flatMap Tk.cells) :: l))
  case first =>
    by_cases h2 : t.op = 2
    · have q2 : (t.op == 2) = true := by simpa using h2
      have hb : bw = true := by rw [HI.out, if_neg (by omega), h2]; rfl
      clear h2 hop hF hT
      go_wp2_with fail
      go_meet
      exact ⟨by rw [hb], H1⟩
    have q2 : (t.op == 2) = false := by simpa using h2
    by_cases h1 : t.op = 1
    · have q1 : (t.op == 1) = true := by simpa using h1
      rw [hf1 h1] at hfw hfw2 hfe
      have hb : bw = decide (t.v.k = 2 ∨ (0 ≤ t.v.n ∧ neg = false)) := by rw [HI.out, if_pos h1]
      by_cases hk : t.v.k = 2
      · have qk : (t.v.k == 2) = true := by simpa using hk
        have hb : bw = true := by rw [hb]; simp [hk]
        clear h1 h2 hop hT hf1 hk
        go_wp2_with (go_at_call 78; refine (hF _).mono ?_; rintro e w2 ⟨rfl, hb2⟩; have H2 := H1.below hb2; obtain ⟨b', off', e1, hbb, f0, f1, f2, f3, f4⟩ := hrb w2 (H2.old (.there ho)); injection e1 with e1; injection e1 with e1 e2; subst e1 e2)
        go_meet
        exact ⟨by rw [hb], H2⟩
      · have qk : (t.v.k == 2) = false := by simpa using hk
        by_cases h0 : 0 ≤ t.v.n
        · have hb : bw = !neg := by rw [hb]; cases neg <;> simp [hk, h0]
          clear h1 h2 hop hT hf1 hk
          go_wp2_with (go_at_call 78; refine (hF _).mono ?_; rintro e w2 ⟨rfl, hb2⟩; have H2 := H1.below hb2; obtain ⟨b', off', e1, hbb, f0, f1, f2, f3, f4⟩ := hrb w2 (H2.old (.there ho)); injection e1 with e1; injection e1 with e1 e2; subst e1 e2)
          go_meet
          exact ⟨by rw [hb], H2⟩
        · have hb : bw = false := by rw [hb]; simp [hk, h0]
          clear h1 h2 hop hT hf1 hk
          go_wp2_with (go_at_call 78; refine (hF _).mono ?_; rintro e w2 ⟨rfl, hb2⟩; have H2 := H1.below hb2; obtain ⟨b', off', e1, hbb, f0, f1, f2, f3, f4⟩ := hrb w2 (H2.old (.there ho)); injection e1 with e1; injection e1 with e1 e2; subst e1 e2)
          go_meet
          exact ⟨by rw [hb], H2⟩
    · have q1 : (t.op == 1) = false := by simpa using h1
      have hb : bw = isFun t.op := by rw [HI.out, if_neg h1, decide_eq_false h2]; rfl
      cases hq : isFun t.op
      · rw [hq] at hfw hfw2 hfe hb
        clear h1 h2 hop hT hf1 hq
        go_wp2_with (go_at_call 78; refine (hF _).mono ?_; rintro e w2 ⟨rfl, hb2⟩; have H2 := H1.below hb2; obtain ⟨b', off', e1, hbb, f0, f1, f2, f3, f4⟩ := hrb w2 (H2.old (.there ho)); injection e1 with e1; injection e1 with e1 e2; subst e1 e2)
        go_meet
        exact ⟨by rw [hb], H2⟩
      · rw [hq] at hfw hfw2 hfe hb
        clear h1 h2 hop hT hf1 hq
        go_wp2_with (go_at_call 78; refine (hF _).mono ?_; rintro e w2 ⟨rfl, hb2⟩; have H2 := H1.below hb2; obtain ⟨b', off', e1, hbb, f0, f1, f2, f3, f4⟩ := hrb w2 (H2.old (.there ho)); injection e1 with e1; injection e1 with e1 e2; subst e1 e2)
        go_meet
        exact ⟨by rw [hb], H2⟩
  case rest =>
    clear H1 d0 d1 d2 d3 d4 hF hT hrb
    obtain ⟨rfl, H1⟩ := hcut
    cases bw
    · have HE := Lib.hid (show operW (.node t ks) neg W = wdK [40] :: (W ++ [wdK [41]]) by rw [HE.out]; rfl)
      go_wp2_with fail
      refine (rwords_c [40] [wdK [40]] (by decide) scan_par H1).mono ?_
      rintro e w3 ⟨A3, c3, t3, rfl, s3, H3⟩
      have n3 : t3.length ≤ 5000 := by rw [sameTk_len s3]; decide
      go_wp2_with (at_builtin; have R4 := HS.row (v := .slice A3 t3.length c3) H3 pkQ; have Q4 := HS.row (v := .slice A1 t1.length c1) H3 pkQ; refine wpList_appAny (v := .slice A3 t3.length c3) rfl _ _ stTk rfl rfl R4 rfl (news := t1.flatMap Tk.cells) (kcells_len _) (Rd.of_own Q4) (own_none Q4) (kcells_one _) (by omega) (Nat.zero_le _) ?_; intro v4 w4 o4 g4 at4; obtain ⟨A4, c4, t4, rfl, h4, p4⟩ := own_tk o4; have H4 := HS.app (v := .slice A3 t3.length c3) H3 pkQ p4 g4 at4; have n4 : t4.length ≤ 20000 := (by rw [h4.out, List.length_append]; omega))
      have n4' : t4.length ≤ 10000 := by rw [h4.out, List.length_append]; omega
      refine (rwords_c [41] [wdK [41]] (by decide) scan_end H4).mono ?_
      rintro e w5 ⟨A5, c5, t5, rfl, s5, H5⟩
      have n5 : t5.length ≤ 5000 := by rw [sameTk_len s5]; decide
      go_wp2_with (at_builtin; have R6 := HS.row (v := .slice A4 t4.length c4) H5 pkQ; have Q6 := HS.row (v := .slice A5 t5.length c5) H5 pkQ; refine wpList_appAny (v := .slice A4 t4.length c4) rfl _ _ stTk rfl rfl R6 rfl (news := t5.flatMap Tk.cells) (kcells_len _) (Rd.of_own Q6) (own_none Q6) (kcells_one _) (by omega) (Nat.zero_le _) ?_; intro v6 w6 o6 g6 at6; obtain ⟨A6, c6, t6, rfl, h6, p6⟩ := own_tk o6; have H6 := HS.app (v := .slice A4 t4.length c4) H5 pkQ p6 g6 at6; have n6 : t6.length ≤ 20000 := (by rw [h6.out, List.length_append]; omega))
      go_ret
      refine TrPost.done ?_ H6 pkQ
      rw [HE.out, h6.out, h4.out, List.append_assoc]
      exact sameTk_cat s3 (sameTk_cat s1 s5)
    · go_wp2_with fail
      go_ret
      refine TrPost.done ?_ H1 pkQ
      rw [HE.out]
      exact s1
end Go.Proofs.YtpnfbehbheddeaaGreatDoor
