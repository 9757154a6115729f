/- Contracts of Scan, of the program and of the reference: strings of at most 2^40 bytes; the program's where the variable ErrRange can be read. Contract of ParseExpr: for every source of at most 2^40 bytes and names of at most 1000000 columns. The variable ErrRange can be read. -/
import Derived.Test.YtpnfbehbheddeaaGreatDoorBn21
import Derived.Test.YtpnfbehbheddeaaGreatDoorBn07
import Derived.Test.YtpnfbehbheddeaaGreatDoorBn18
import Derived.Test.YtpnfbehbheddeaaGreatDoorBn19
namespace Go.Proofs.YtpnfbehbheddeaaGreatDoor
set_option maxRecDepth 100000
set_option maxHeartbeats 8000000
set_option linter.unusedVariables false
set_option linter.unusedSimpArgs false
open Go.RowKit
def KPost (w : World) (x : List Tk × Nat × Int) (e : Ending) (w' : World) : Prop :=
  ∃ (A : Option Addr) (c : Nat), e = .returned (.tuple #[.slice A x.1.length c, .int .i64 (x.2.1 : Int), .int .i64 x.2.2]) ∧ w'.ownsRow w.heap.size 100 4 (.slice A x.1.length c) x.1.length (x.1.flatMap Tk.cells) ∧ Below w.heap.size w w'
theorem idle_Scan (w : World) : CallsD Tryz.prog 40 #[] .returning w fun e u' w' => e = .returned (.tuple #[]) ∧ u' = .returning ∧ w' = w := by
  refine callsD_of_wpS Tryz.func40 rfl fun c₀ cs hu => ?_
  apply wpS_region
  cases c₀
  simp_all [wpOpsS, go_sem, recoverD, Tryz.ntmps40, bodyPostS, results, Tryz.results40]
theorem xskip_at (s : ByteArray) (q : Nat) (i : Int) (w : World) (hi : i = (q : Int)) (hs : s.size ≤ 1099511627776) (hq : q ≤ s.size) : Calls Tryz.prog 41 #[.string s, .int .i64 i] w fun e w' => e = .returned (.int .i64 ((q + skipN false (s.data.toList.drop q) : Nat) : Int)) ∧ w = w' := by
  subst hi
  exact xskip s q w hs hq
theorem jump_no {s : List UInt8} {p : Nat} {c : UInt8} (h : s[p + skipN false (s.drop p)]? = some c) : ¬ wsB c := by
  have h2 := drop_at h
  rw [← List.drop_drop] at h2
  have := skipN_end (s.drop p) false c _ h2
  unfold wsB
  rintro (h | h | h | h | h) <;> simp [h] at this
theorem jump_le {s : List UInt8} {p : Nat} (hp : p ≤ s.length) : p + skipN false (s.drop p) ≤ s.length := by
  have := skipN_le (s.drop p) false
  rw [List.length_drop] at this
  omega
theorem kcells_snoc (acc : List Tk) (t : Tk) : (acc ++ [t]).flatMap Tk.cells = acc.flatMap Tk.cells ++ t.cells := by simp
def ScRel (w : World) (l : List UInt8) (X : List Tk × Nat × Int) (v5 v6 : Value) (wr : World) : Prop :=
  ∃ (p : Nat) (acc : List Tk), v6 = .int .i64 (p : Int) ∧ p ≤ l.length ∧ acc.length ≤ 4096 ∧ wr.ownsRow w.heap.size 100 4 v5 acc.length (acc.flatMap Tk.cells) ∧ Below w.heap.size w wr ∧ ScanTo l p acc X ∧ (∀ c, l[p]? = some c → ¬ wsB c)
theorem xscan (s : ByteArray) (w : World) (hs : s.size ≤ 1099511627776) (hE : GE w) : Calls Tryz.prog 18 #[.string s] w (KPost w (scanO s.data.toList)) := by
  have hmf : ∀ (fn : Fn) (first cap : Array Value) (w : World), (Instr.makeFunc fn first cap).run Tryz.prog w = .ok (.func fn first cap) w := fun _ _ _ _ => rfl
  have HZ := Lib.hid (Lib.size_eq s)
  by_cases hbig : 32768 < s.size
  · have t1 : (32768 : Int) < (s.size : Int) := by omega
    have HR := Lib.hid (scanO_full (s := s.data.toList) (by rw [← HZ.out]; exact hbig))
    go_enter_defers Tryz.func18, Tryz.ntmps18
    go_wp2_with fail
    refine leave_idle idle_Scan (by simp [go_sem]) (by simp [results, Tryz.results18, go_sem]; rfl) ?_
    unfold KPost
    rw [HR.out]
    exact ⟨none, 0, rfl, World.ownsRow_nil _ _ _ _, by (exact belQ)⟩
  have t1 : ¬ (32768 : Int) < (s.size : Int) := by omega
  have ST := ScanTo.start (s := s.data.toList) (by rw [← HZ.out]; omega)
  obtain ⟨X, hX⟩ : ∃ X, scanO s.data.toList = X := ⟨_, rfl⟩
  rw [hX] at ST
  rw [hX]
  have HS := Lib.hid ST.jump
  have H0 := Lib.hid (fun c => jump_no (s := s.data.toList) (p := 0) (c := c))
  have HL := Lib.hid (jump_le (s := s.data.toList) (p := 0) (by omega))
  have hk := fun w => xskip_at s 0 0 w rfl hs (by omega)
  obtain ⟨p0, hp0⟩ : ∃ p0, 0 + skipN false (s.data.toList.drop 0) = p0 := ⟨_, rfl⟩
  rw [hp0] at HS H0 HL hk
  clear hX ST hp0
  go_enter_defers Tryz.func18, Tryz.ntmps18
  go_wp2_with (go_at_call 41; refine (hk _).mono ?_; rintro e w1 ⟨rfl, rfl⟩)
  clear hk
  go_loopw [5, 6] (fun v5 v6 wr => ScRel w s.data.toList X v5 v6 wr) (fun _ v6 _ => s.size - (intOf v6).toNat)
  case atStart => exact ⟨p0, [], rfl, HL.out, by simp, World.ownsRow_nil _ _ _ _, Below.refl _ _, HS.out, H0.out⟩
  case round =>
    clear HS H0 HL
    obtain ⟨p, acc, rfl, hp, hacc, hown, hbel, hST, hnw⟩ := hrel
    have HST := Lib.hid hST
    have HNW := Lib.hid hnw
    clear hST hnw
    rw [← HZ.out] at hp
    have hzz := hbel.size
    obtain ⟨A5, c5, rfl, h51, h52⟩ := own_slice hown
    by_cases hlt : p < s.size
    · obtain ⟨c, hc⟩ : ∃ c, s.data.toList[p]? = some c := ⟨_, List.getElem?_eq_getElem (by rw [← HZ.out]; exact hlt)⟩
      have hp1 : (p : Int) < (s.size : Int) := by omega
      have hp2 : (p : Int) ≤ (s.size : Int) := by omega
      have hp0 : (0 : Int) ≤ (p : Int) := by omega
      have hT := fun w1 hb => xscanToken (s.extract p s.size) w1 (by rw [Lib.size_eq, sub_extract, List.length_drop, ← HZ.out]; omega) (by rw [Lib.size_eq, sub_extract, List.length_drop, ← HZ.out]; omega) (GE.below hE hb)
      simp only [sub_extract] at hT
      obtain ⟨⟨t, m, ec⟩, hy⟩ : ∃ y, tokO (s.data.toList.drop p) = y := ⟨_, rfl⟩
      rw [hy] at hT
      obtain ⟨k1, k2, k3⟩ := HST.out.tok hc (HNW.out c hc) hy
      have K1 := Lib.hid k1
      have K2 := Lib.hid k2
      have K3 := Lib.hid k3
      clear hy k1 k2 k3 hc
      unfold TkPost at hT
      simp only at hT
      by_cases he : ec = 0
      · subst he
        by_cases h4 : acc.length = 4096
        · have t4 : ((acc.length : Int) == 4096) = true := by rw [beq_iff_eq]; omega
          have HR := Lib.hid (K2.out rfl h4)
          clear h4
          go_wp2_with (go_at_call 42; refine (hT _ (by (exact belQ))).mono ?_; rintro e w1 ⟨rfl, hb1⟩; have hz1 := hb1.size)
          refine leave_idle idle_Scan (by simp [go_sem]) (by simp [results, Tryz.results18, go_sem]; rfl) ?_
          unfold KPost
          rw [HR.out]
          exact ⟨none, 0, rfl, World.ownsRow_nil _ _ _ _, by (exact belQ)⟩
        · have t4 : ((acc.length : Int) == 4096) = false := by rw [beq_eq_false_iff_ne]; omega
          obtain ⟨hS2, hm1, hm2⟩ := K3.out rfl h4
          rw [← HZ.out] at hm2
          have HS2 := Lib.hid hS2.jump
          have H02 := Lib.hid (fun c => jump_no (s := s.data.toList) (p := p + m) (c := c))
          have HL2 := Lib.hid (jump_le (s := s.data.toList) (p := p + m) (by rw [← HZ.out]; omega))
          have hk := fun i w hi => xskip_at s (p + m) i w hi hs (by omega)
          obtain ⟨q, hq⟩ : ∃ q, p + m + skipN false (s.data.toList.drop (p + m)) = q := ⟨_, rfl⟩
          rw [hq] at HS2 H02 HL2 hk
          have hq2 : p + m ≤ q := by omega
          have hq3 : q ≤ s.size := by rw [HZ.out]; exact HL2.out
          clear hq hS2
          have h4' : acc.length < 4096 := by omega
          clear h4
          go_wp2_with (first
            | (go_at_call 42; refine (hT _ (by (exact belQ))).mono ?_; rintro e w1 ⟨rfl, hb1⟩; have hz1 := hb1.size; have own1 := own_below hown hb1)
            | (at_builtin; refine wpList_app (v := .slice A5 acc.length c5) rfl _ _ stK rfl rfl (own1.alloc _) rfl (by simp) rfl (by simp [Value.oneCell']) (by omega) (by simp; omega) ?_; intro v' w3 own3 hg3 hat3; have hz3 := hg3.size; simp at hz3)
            | (go_at_call 41; refine (hk _ _ (by omega)).mono ?_; rintro e w4 ⟨rfl, rfl⟩))
          have hb3 := below_app ((below_step hb1 hbel (Nat.le_refl _)).alloc (by omega) _) (own1.alloc _) hg3 (Nat.le_refl _) (by simp; omega)
          go_roundw
          case rel =>
            refine ⟨q, acc ++ [{ t with pos := (p : Int) }], rfl, HL2.out, by simp; omega, ?_, hb3, HS2.out, H02.out⟩
            rw [List.length_append, kcells_snoc]
            exact own3
          case measure => simp [intOf]; omega
      · have te : (ec != 0) = true := by rw [bne_iff_ne]; exact he
        have te2 : (ec == 0) = false := by rw [beq_eq_false_iff_ne]; exact he
        have HR := Lib.hid (K1.out he)
        clear he
        go_wp2_with (go_at_call 42; refine (hT _ (by (exact belQ))).mono ?_; rintro e w1 ⟨rfl, hb1⟩; have hz1 := hb1.size)
        refine leave_idle idle_Scan (by simp [go_sem]) (by simp [results, Tryz.results18, go_sem]; rfl) ?_
        unfold KPost
        rw [HR.out]
        exact ⟨none, 0, rfl, World.ownsRow_nil _ _ _ _, by (exact belQ)⟩
    · have hp1 : ¬ (p : Int) < (s.size : Int) := by omega
      have HR := Lib.hid (HST.out.done (by rw [← HZ.out]; omega))
      go_wp2_with fail
      refine leave_idle idle_Scan (by simp [go_sem]) (by simp [results, Tryz.results18, go_sem]; rfl) ?_
      unfold KPost
      rw [HR.out]
      exact ⟨A5, c5, rfl, hown, hbel⟩
def pexprO (l : Bs) (left right : List Bs) : List T × Int × Int := if (scanO l).2.2 ≠ 0 then ([], (scanO l).2.1, (scanO l).2.2) else parseExprP ⟨(scanO l).1, l.length⟩ left right
theorem scan_okN {l : Bs} {toks : List Tk} {k : Nat} (h : scanO l = (toks, k, 0)) (z : Int) : (Src.mk toks z).okN := fun t ht hk => by
  have h1 := (cov_all _ _ _ (scanO_cov h).1 t ht).1
  unfold tokOk at h1
  rw [if_neg (by omega), if_pos hk] at h1
  simpa using h1
theorem idle_ParseExpr (w : World) : CallsD Tryz.prog 17 #[] .returning w fun e u' w' => e = .returned (.tuple #[]) ∧ u' = .returning ∧ w' = w := by
  refine callsD_of_wpS Tryz.func17 rfl fun c₀ cs hu => ?_
  apply wpS_region
  cases c₀
  simp_all [wpOpsS, go_sem, recoverD, Tryz.ntmps17, bodyPostS, results, Tryz.results17]
theorem below_pfr {S : Nat → Prop} {B : Nat} {a w w' : World} (h : Below B a w) (hf : PFr S w w') (hS : ∀ k, S k → B ≤ k) (hB : B ≤ w.heap.size) : Below B a w' :=
  h.trans ⟨hf.os, hf.tape, hf.output, hf.size, fun k hk => hf.block k (by omega) fun hs => by have := hS k hs; omega⟩
def PxPost (w : World) (r : List T × Int × Int) (e : Ending) (w' : World) : Prop := ∃ v, e = .returned (.tuple #[v, .int .i64 r.2.1, .int .i64 r.2.2]) ∧ w'.ownsRow w.heap.size 40 5 v r.1.length (r.1.flatMap T.cells) ∧ Below w.heap.size w w'
def nil21 : Array Value := #[.slice none 0 0, .slice none 0 0, .slice none 0 0, .slice none 0 0, .slice none 0 0, .slice none 0 0, .slice none 0 0, .slice none 0 0, .slice none 0 0, .slice none 0 0, .slice none 0 0, .slice none 0 0, .slice none 0 0, .slice none 0 0, .slice none 0 0, .slice none 0 0, .slice none 0 0, .slice none 0 0, .slice none 0 0, .slice none 0 0, .slice none 0 0]
theorem ps_cells (pb : Nat) (A : Option Addr) (c : Nat) (e : Src) : psC ⟨pb, A, c, e, nil21⟩ ⟨0, false, 0, []⟩ (.slice none 0 0) = #[.slice A e.toks.length c, .int .i64 0, .int .i64 e.fin, .bool false, .int .i64 0, .slice none 0 0, .slice none 0 0, .slice none 0 0, .slice none 0 0, .slice none 0 0, .slice none 0 0, .slice none 0 0, .slice none 0 0, .slice none 0 0, .slice none 0 0, .slice none 0 0, .slice none 0 0, .slice none 0 0, .slice none 0 0, .slice none 0 0, .slice none 0 0, .slice none 0 0, .slice none 0 0, .slice none 0 0, .slice none 0 0, .slice none 0 0, .slice none 0 0] := by
  simp [psC, nil21]
theorem ps_new {w : World} {base c : Nat} {A : Option Addr} {toks : List Tk} (own : w.ownsRow base 100 4 (.slice A toks.length c) toks.length (toks.flatMap Tk.cells)) (hl : toks.length ≤ 4096) (z : Int) :
    PsAt ⟨w.heap.size, A, c, ⟨toks, z⟩, nil21⟩ (w.alloc (.cells #[.slice A toks.length c, .int .i64 0, .int .i64 z, .bool false, .int .i64 0, .slice none 0 0, .slice none 0 0, .slice none 0 0, .slice none 0 0, .slice none 0 0, .slice none 0 0, .slice none 0 0, .slice none 0 0, .slice none 0 0, .slice none 0 0, .slice none 0 0, .slice none 0 0, .slice none 0 0, .slice none 0 0, .slice none 0 0, .slice none 0 0, .slice none 0 0, .slice none 0 0, .slice none 0 0, .slice none 0 0, .slice none 0 0, .slice none 0 0] 69)) ⟨0, false, 0, []⟩ (.slice none 0 0) :=
  ⟨by rw [ps_cells]; exact heap_alloc_new w _, (RowOf.of_own own rfl).alloc (Nat.le_refl _) _, Nat.zero_le _, by show toks.length ≤ 100000; omega, World.ownsRow_nil _ _ _ _⟩
theorem pexpr_c (s : ByteArray) {LA DA : Option Addr} {ln lc rn rc : Nat} {left right : List Bs} (w : World) (hs : s.size ≤ 1099511627776) (hE : GE w) (hL : RowB w w.heap.size LA ln left) (hD : RowB w w.heap.size DA rn right) (hln : ln ≤ 1000000) (hrn : rn ≤ 1000000) : Calls Tryz.prog 8 #[.string s, .slice LA ln lc, .slice DA rn rc] w (PxPost w (pexprO s.data.toList left right)) := by
  have hmf : ∀ (fn : Fn) (first cap : Array Value) (w : World), (Instr.makeFunc fn first cap).run Tryz.prog w = .ok (.func fn first cap) w := fun _ _ _ _ => rfl
  have hP := fun w1 hb => xscan s w1 hs (GE.below hE hb)
  have hlen := scanO_len s.data.toList
  have hok := fun (toks : List Tk) (k : Nat) (h : scanO s.data.toList = (toks, k, 0)) => scan_okN h s.size
  unfold pexprO
  rw [← Lib.size_eq]
  generalize scanO s.data.toList = X at hP hlen hok ⊢
  obtain ⟨toks, i, ec⟩ := X
  simp only at hlen ⊢
  unfold KPost at hP
  simp only at hP
  by_cases hec : ec = 0
  · subst hec
    rw [if_neg (by simp)]
    have hN := hok toks i rfl
    clear hok
    have hWh := fun (w1 : World) (A1 : Option Addr) (c1 : Nat) own1 => whole_c (w := w1.alloc _) (p := ⟨w1.heap.size, A1, c1, ⟨toks, s.size⟩, nil21⟩) hN (ps_new (base := w.heap.size) own1 hlen s.size)
    have hred := whole_red ⟨toks, s.size⟩ ⟨0, false, 0, []⟩ (Nat.zero_le _)
    unfold parseExprP
    simp only at hWh
    generalize wholeP ⟨toks, s.size⟩ ⟨0, false, 0, []⟩ = q at hWh hred ⊢
    obtain ⟨x, s2⟩ := q
    simp only at hWh hred ⊢
    unfold WhPost ptrV at hWh
    simp only at hWh
    by_cases hlt : s2.pos < toks.length
    · rw [if_pos hlt, if_pos (show (s2.fail ⟨toks, s.size⟩).failed = true from rfl)]
      go_enter_defers Tryz.func8, Tryz.ntmps8
      go_wp2_with (first
        | (go_at_call 18; refine (hP _ (by (exact belQ))).mono ?_; rintro e w1 ⟨A1, c1, rfl, own1, hb1⟩)
        | (go_at_call 19; refine (hWh _ _ _ own1).mono ?_; rintro e w2 ⟨r, a, rv2, hx2, rfl, P2, T2, F2, O2⟩; obtain ⟨AR, cR, rfl, -, -⟩ := own_slice P2.refs; have P3 := P2.alloc (.cells #[.pointer (some ⟨a, 0, none⟩), .slice AR s2.refs.length cR] 72); obtain ⟨⟨d0, d1, -, d3, d4, -⟩, -⟩ := P3.cells; simp only at d0 d1 d3 d4))
      go_quiet (fail)
      go_wp2_with (go_at_call 20; refine (fail_c (P3.drewN _)).mono ?_; rintro e w4 ⟨rfl, P4, F4⟩; obtain ⟨⟨-, -, -, e3, e4, -⟩, -⟩ := P4.cells; simp only at e3 e4; rw [show (s2.fail ⟨toks, s.size⟩).failed = true from rfl] at e3)
      go_quiet (fail)
      go_wp2_with fail
      refine leave_idle idle_ParseExpr (by simp [go_sem]) (by simp [results, Tryz.results8, go_sem]; rfl) ?_
      have hz1 := hb1.size
      have q2 := below_pfr (hb1.alloc hz1 _) F2 (fun k hk => by subst hk; exact hz1) (by simp; omega)
      have q4 := below_pfr (below_drewN (q2.alloc q2.size _) _) F4 (fun k hk => by subst hk; exact hz1) (by have := q2.size; simp; omega)
      exact ⟨.slice none 0 0, rfl, World.ownsRow_nil _ _ _ _, below_drewN q4 _⟩
    · rw [if_neg hlt]
      have hlt2 : ¬ (s2.pos : Int) < (toks.length : Int) := by omega
      cases hfd : s2.failed
      · rw [if_neg (by simp)]
        cases hxr : x.resolve left right with
        | error z =>
          simp only
          go_enter_defers Tryz.func8, Tryz.ntmps8
          go_wp2_with (first
          | (go_at_call 18; refine (hP _ (by (exact belQ))).mono ?_; rintro e w1 ⟨A1, c1, rfl, own1, hb1⟩)
          | (go_at_call 19; refine (hWh _ _ _ own1).mono ?_; rintro e w2 ⟨r, a, rv2, hx2, rfl, P2, T2, F2, O2⟩; obtain ⟨AR, cR, rfl, -, -⟩ := own_slice P2.refs; have P3 := P2.alloc (.cells #[.pointer (some ⟨a, 0, none⟩), .slice AR s2.refs.length cR] 72); obtain ⟨⟨d0, d1, -, d3, d4, -⟩, -⟩ := P3.cells; simp only at d0 d1 d3 d4))
          go_quiet (fail)
          have hz1 := hb1.size
          have q2 := below_pfr (hb1.alloc hz1 (.cells _ _)) F2 (fun k hk => by subst hk; exact hz1) (by simp; omega)
          have q3 := below_drewN (q2.alloc q2.size (.cells #[.pointer (some ⟨a, 0, none⟩), .slice AR s2.refs.length cR] 72)) nq
          subst hx2
          obtain ⟨r1, r2, r3⟩ := hred r rfl
          simp only at r1 r2 r3
          have hR := resolve_c (cr := cR) (lc := lc) (rc := rc) ((T2.below ((Below.refl _ _).alloc (Nat.le_refl _) _)).below (below_drewN (Below.refl _ _) nq)) (RowOf.of_own (P3.drewN nq).refs rfl) ((hL.below q3).more q3.size) ((hD.below q3).more q3.size) (by omega) hln hrn (by omega) r1
          clear P2 P3 d0 d1 d4 hWh hP own1 F2 O2 T2
          rw [hxr] at hR
          unfold RsPost at hR
          simp only at hR
          clear hxr
          go_wp2_with (go_at_call 21; refine hR.mono ?_; rintro e w5 ⟨rfl, hb5⟩)
          refine leave_idle idle_ParseExpr (by simp [go_sem]) (by simp [results, Tryz.results8, go_sem]; rfl) ?_
          exact ⟨.slice none 0 0, rfl, World.ownsRow_nil _ _ _ _, below_step hb5 q3 (Nat.le_refl _)⟩
        | ok l =>
          simp only
          go_enter_defers Tryz.func8, Tryz.ntmps8
          go_wp2_with (first
          | (go_at_call 18; refine (hP _ (by (exact belQ))).mono ?_; rintro e w1 ⟨A1, c1, rfl, own1, hb1⟩)
          | (go_at_call 19; refine (hWh _ _ _ own1).mono ?_; rintro e w2 ⟨r, a, rv2, hx2, rfl, P2, T2, F2, O2⟩; obtain ⟨AR, cR, rfl, -, -⟩ := own_slice P2.refs; have P3 := P2.alloc (.cells #[.pointer (some ⟨a, 0, none⟩), .slice AR s2.refs.length cR] 72); obtain ⟨⟨d0, d1, -, d3, d4, -⟩, -⟩ := P3.cells; simp only at d0 d1 d3 d4))
          go_quiet (fail)
          have hz1 := hb1.size
          have q2 := below_pfr (hb1.alloc hz1 (.cells _ _)) F2 (fun k hk => by subst hk; exact hz1) (by simp; omega)
          have q3 := below_drewN (q2.alloc q2.size (.cells #[.pointer (some ⟨a, 0, none⟩), .slice AR s2.refs.length cR] 72)) nq
          subst hx2
          obtain ⟨r1, r2, r3⟩ := hred r rfl
          simp only at r1 r2 r3
          have hR := resolve_c (cr := cR) (lc := lc) (rc := rc) ((T2.below ((Below.refl _ _).alloc (Nat.le_refl _) _)).below (below_drewN (Below.refl _ _) nq)) (RowOf.of_own (P3.drewN nq).refs rfl) ((hL.below q3).more q3.size) ((hD.below q3).more q3.size) (by omega) hln hrn (by omega) r1
          clear P2 P3 d0 d1 d4 hWh hP own1 F2 O2 T2
          rw [hxr] at hR
          unfold RsPost at hR
          simp only at hR
          clear hxr
          go_wp2_with (go_at_call 21; refine hR.mono ?_; rintro e w5 ⟨v5, rfl, own5, hb5⟩)
          refine leave_idle idle_ParseExpr (by simp [go_sem]) (by simp [results, Tryz.results8, go_sem]; rfl) ?_
          exact ⟨v5, rfl, own_base own5 q3.size, below_step hb5 q3 (Nat.le_refl _)⟩
      · rw [if_pos rfl]
        go_enter_defers Tryz.func8, Tryz.ntmps8
        go_wp2_with (first
        | (go_at_call 18; refine (hP _ (by (exact belQ))).mono ?_; rintro e w1 ⟨A1, c1, rfl, own1, hb1⟩)
        | (go_at_call 19; refine (hWh _ _ _ own1).mono ?_; rintro e w2 ⟨r, a, rv2, hx2, rfl, P2, T2, F2, O2⟩; obtain ⟨AR, cR, rfl, -, -⟩ := own_slice P2.refs; have P3 := P2.alloc (.cells #[.pointer (some ⟨a, 0, none⟩), .slice AR s2.refs.length cR] 72); obtain ⟨⟨d0, d1, -, d3, d4, -⟩, -⟩ := P3.cells; simp only at d0 d1 d3 d4))
        go_quiet (fail)
        go_wp2_with fail
        go_quiet (fail)
        go_wp2_with fail
        refine leave_idle idle_ParseExpr (by simp [go_sem]) (by simp [results, Tryz.results8, go_sem]; rfl) ?_
        have hz1 := hb1.size
        have q2 := below_pfr (hb1.alloc hz1 (.cells _ _)) F2 (fun k hk => by subst hk; exact hz1) (by simp; omega)
        exact ⟨.slice none 0 0, rfl, World.ownsRow_nil _ _ _ _, below_drewN (below_drewN (q2.alloc q2.size _) _) _⟩
  · rw [if_pos hec]
    have tec : (ec != 0) = true := by simpa using hec
    go_enter_defers Tryz.func8, Tryz.ntmps8
    go_wp2_with (go_at_call 18; refine (hP _ (by (exact belQ))).mono ?_; rintro e w1 ⟨A1, c1, rfl, own1, hb1⟩)
    refine leave_idle idle_ParseExpr (by simp [go_sem]) (by simp [results, Tryz.results8, go_sem]; rfl) ?_
    exact ⟨.slice none 0 0, rfl, World.ownsRow_nil _ _ _ _, by (exact belQ)⟩
end Go.Proofs.YtpnfbehbheddeaaGreatDoor
