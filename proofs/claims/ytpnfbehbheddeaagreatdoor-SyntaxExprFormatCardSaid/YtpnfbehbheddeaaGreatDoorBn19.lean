/- Contracts of Scan, of the program and of the reference: strings of at most 2^40 bytes; the program's where the variable ErrRange can be read. Contract of ParseExpr: for every source of at most 2^40 bytes and names of at most 1000000 columns. The variable ErrRange can be read. The declarations of layer 5, as the program reads them, and how it looks up their names: an exact mirror in plain Lean. No program in sight, no condition. -/
import Derived.Test.YtpnfbehbheddeaaGreatDoorBn18
import Derived.Test.YtpnfbehbheddeaaGreatDoorBn03
import Derived.Test.YtpnfbehbheddeaaGreatDoorBn10
import Derived.Test.YtpnfbehbheddeaaGreatDoorBn12
import Derived.Test.YtpnfbehbheddeaaGreatDoorBn09
namespace Go.Proofs.YtpnfbehbheddeaaGreatDoor
set_option maxRecDepth 100000
set_option maxHeartbeats 8000000
set_option linter.unusedVariables false
set_option linter.unusedSimpArgs false
open Go.RowKit
def KPost (w : World) (x : List Tk × Nat × Int) (e : Ending) (w' : World) : Prop :=
  ∃ (A : Option Addr) (c : Nat), e = .returned (.tuple #[.slice A x.1.length c, .int .i64 (x.2.1 : Int), .int .i64 x.2.2]) ∧ w'.ownsRow w.heap.size 100 4 (.slice A x.1.length c) x.1.length (x.1.flatMap Tk.cells) ∧ Below w.heap.size w w'
theorem idle_Scan (w : World) : CallsD Tryz.prog 40 #[] .returning w fun e u' w' => e = .returned (.tuple #[]) ∧ u' = .returning ∧ w' = w := by
  refine callsD_of_wpS Tryz.func40 rfl fun c₀ cs hu => ?_
  apply wpS_region
  cases c₀
  simp_all [wpOpsS, go_sem, recoverD, Tryz.ntmps40, bodyPostS, results, Tryz.results40]
theorem xskip_at (s : ByteArray) (q : Nat) (i : Int) (w : World) (hi : i = (q : Int)) (hs : s.size ≤ 1099511627776) (hq : q ≤ s.size) : Calls Tryz.prog 41 #[.string s, .int .i64 i] w fun e w' => e = .returned (.int .i64 ((q + skipN false (s.data.toList.drop q) : Nat) : Int)) ∧ w = w' := by
  subst hi
  exact xskip s q w hs hq
theorem jump_no {s : List UInt8} {p : Nat} {c : UInt8} (h : s[p + skipN false (s.drop p)]? = some c) : ¬ wsB c := by
  have h2 := drop_at h
  rw [← List.drop_drop] at h2
  have := skipN_end (s.drop p) false c _ h2
  unfold wsB
  rintro (h | h | h | h | h) <;> simp [h] at this
theorem jump_le {s : List UInt8} {p : Nat} (hp : p ≤ s.length) : p + skipN false (s.drop p) ≤ s.length := by
  have := skipN_le (s.drop p) false
  rw [List.length_drop] at this
  omega
theorem kcells_snoc (acc : List Tk) (t : Tk) : (acc ++ [t]).flatMap Tk.cells = acc.flatMap Tk.cells ++ t.cells := by simp
def ScRel (w : World) (l : List UInt8) (X : List Tk × Nat × Int) (v5 v6 : Value) (wr : World) : Prop :=
  ∃ (p : Nat) (acc : List Tk), v6 = .int .i64 (p : Int) ∧ p ≤ l.length ∧ acc.length ≤ 4096 ∧ wr.ownsRow w.heap.size 100 4 v5 acc.length (acc.flatMap Tk.cells) ∧ Below w.heap.size w wr ∧ ScanTo l p acc X ∧ (∀ c, l[p]? = some c → ¬ wsB c)
theorem xscan (s : ByteArray) (w : World) (hs : s.size ≤ 1099511627776) (hE : GE w) : Calls Tryz.prog 18 #[.string s] w (KPost w (scanO s.data.toList)) := by
  have hmf : ∀ (fn : Fn) (first cap : Array Value) (w : World), (Instr.makeFunc fn first cap).run Tryz.prog w = .ok (.func fn first cap) w := fun _ _ _ _ => rfl
  have HZ := Lib.hid (Lib.size_eq s)
  by_cases hbig : 32768 < s.size
  · have t1 : (32768 : Int) < (s.size : Int) := by omega
    have HR := Lib.hid (scanO_full (s := s.data.toList) (by rw [← HZ.out]; exact hbig))
    go_enter_defers Tryz.func18, Tryz.ntmps18
    go_wp2_with fail
    refine leave_idle idle_Scan (by simp [go_sem]) (by simp [results, Tryz.results18, go_sem]; rfl) ?_
    unfold KPost
    rw [HR.out]
    exact ⟨none, 0, rfl, World.ownsRow_nil _ _ _ _, by (exact belQ)⟩
  have t1 : ¬ (32768 : Int) < (s.size : Int) := by omega
  have ST := ScanTo.start (s := s.data.toList) (by rw [← HZ.out]; omega)
  obtain ⟨X, hX⟩ : ∃ X, scanO s.data.toList = X := ⟨_, rfl⟩
  rw [hX] at ST
  rw [hX]
  have HS := Lib.hid ST.jump
  have H0 := Lib.hid (fun c => jump_no (s := s.data.toList) (p := 0) (c := c))
  have HL := Lib.hid (jump_le (s := s.data.toList) (p := 0) (by omega))
  have hk := fun w => xskip_at s 0 0 w rfl hs (by omega)
  obtain ⟨p0, hp0⟩ : ∃ p0, 0 + skipN false (s.data.toList.drop 0) = p0 := ⟨_, rfl⟩
  rw [hp0] at HS H0 HL hk
  clear hX ST hp0
  go_enter_defers Tryz.func18, Tryz.ntmps18
  go_wp2_with (go_at_call 41; refine (hk _).mono ?_; rintro e w1 ⟨rfl, rfl⟩)
  clear hk
  go_loopw [5, 6] (fun v5 v6 wr => ScRel w s.data.toList X v5 v6 wr) (fun _ v6 _ => s.size - (intOf v6).toNat)
  case atStart => exact ⟨p0, [], rfl, HL.out, by simp, World.ownsRow_nil _ _ _ _, Below.refl _ _, HS.out, H0.out⟩
  case round =>
    clear HS H0 HL
    obtain ⟨p, acc, rfl, hp, hacc, hown, hbel, hST, hnw⟩ := hrel
    have HST := Lib.hid hST
    have HNW := Lib.hid hnw
    clear hST hnw
    rw [← HZ.out] at hp
    have hzz := hbel.size
    obtain ⟨A5, c5, rfl, h51, h52⟩ := own_slice hown
    by_cases hlt : p < s.size
    · obtain ⟨c, hc⟩ : ∃ c, s.data.toList[p]? = some c := ⟨_, List.getElem?_eq_getElem (by rw [← HZ.out]; exact hlt)⟩
      have hp1 : (p : Int) < (s.size : Int) := by omega
      have hp2 : (p : Int) ≤ (s.size : Int) := by omega
      have hp0 : (0 : Int) ≤ (p : Int) := by omega
      have hT := fun w1 hb => xscanToken (s.extract p s.size) w1 (by rw [Lib.size_eq, sub_extract, List.length_drop, ← HZ.out]; omega) (by rw [Lib.size_eq, sub_extract, List.length_drop, ← HZ.out]; omega) (GE.below hE hb)
      simp only [sub_extract] at hT
      obtain ⟨⟨t, m, ec⟩, hy⟩ : ∃ y, tokO (s.data.toList.drop p) = y := ⟨_, rfl⟩
      rw [hy] at hT
      obtain ⟨k1, k2, k3⟩ := HST.out.tok hc (HNW.out c hc) hy
      have K1 := Lib.hid k1
      have K2 := Lib.hid k2
      have K3 := Lib.hid k3
      clear hy k1 k2 k3 hc
      unfold TkPost at hT
      simp only at hT
      by_cases he : ec = 0
      · subst he
        by_cases h4 : acc.length = 4096
        · have t4 : ((acc.length : Int) == 4096) = true := by rw [beq_iff_eq]; omega
          have HR := Lib.hid (K2.out rfl h4)
          clear h4
          go_wp2_with (go_at_call 42; refine (hT _ (by (exact belQ))).mono ?_; rintro e w1 ⟨rfl, hb1⟩; have hz1 := hb1.size)
          refine leave_idle idle_Scan (by simp [go_sem]) (by simp [results, Tryz.results18, go_sem]; rfl) ?_
          unfold KPost
          rw [HR.out]
          exact ⟨none, 0, rfl, World.ownsRow_nil _ _ _ _, by (exact belQ)⟩
        · have t4 : ((acc.length : Int) == 4096) = false := by rw [beq_eq_false_iff_ne]; omega
          obtain ⟨hS2, hm1, hm2⟩ := K3.out rfl h4
          rw [← HZ.out] at hm2
          have HS2 := Lib.hid hS2.jump
          have H02 := Lib.hid (fun c => jump_no (s := s.data.toList) (p := p + m) (c := c))
          have HL2 := Lib.hid (jump_le (s := s.data.toList) (p := p + m) (by rw [← HZ.out]; omega))
          have hk := fun i w hi => xskip_at s (p + m) i w hi hs (by omega)
          obtain ⟨q, hq⟩ : ∃ q, p + m + skipN false (s.data.toList.drop (p + m)) = q := ⟨_, rfl⟩
          rw [hq] at HS2 H02 HL2 hk
          have hq2 : p + m ≤ q := by omega
          have hq3 : q ≤ s.size := by rw [HZ.out]; exact HL2.out
          clear hq hS2
          have h4' : acc.length < 4096 := by omega
          clear h4
          go_wp2_with (first
            | (go_at_call 42; refine (hT _ (by (exact belQ))).mono ?_; rintro e w1 ⟨rfl, hb1⟩; have hz1 := hb1.size; have own1 := own_below hown hb1)
            | (at_builtin; refine wpList_app (v := .slice A5 acc.length c5) rfl _ _ stK rfl rfl (own1.alloc _) rfl (by simp) rfl (by simp [Value.oneCell']) (by omega) (by simp; omega) ?_; intro v' w3 own3 hg3 hat3; have hz3 := hg3.size; simp at hz3)
            | (go_at_call 41; refine (hk _ _ (by omega)).mono ?_; rintro e w4 ⟨rfl, rfl⟩))
          have hb3 := below_app ((below_step hb1 hbel (Nat.le_refl _)).alloc (by omega) _) (own1.alloc _) hg3 (Nat.le_refl _) (by simp; omega)
          go_roundw
          case rel =>
            refine ⟨q, acc ++ [{ t with pos := (p : Int) }], rfl, HL2.out, by simp; omega, ?_, hb3, HS2.out, H02.out⟩
            rw [List.length_append, kcells_snoc]
            exact own3
          case measure => simp [intOf]; omega
      · have te : (ec != 0) = true := by rw [bne_iff_ne]; exact he
        have te2 : (ec == 0) = false := by rw [beq_eq_false_iff_ne]; exact he
        have HR := Lib.hid (K1.out he)
        clear he
        go_wp2_with (go_at_call 42; refine (hT _ (by (exact belQ))).mono ?_; rintro e w1 ⟨rfl, hb1⟩; have hz1 := hb1.size)
        refine leave_idle idle_Scan (by simp [go_sem]) (by simp [results, Tryz.results18, go_sem]; rfl) ?_
        unfold KPost
        rw [HR.out]
        exact ⟨none, 0, rfl, World.ownsRow_nil _ _ _ _, by (exact belQ)⟩
    · have hp1 : ¬ (p : Int) < (s.size : Int) := by omega
      have HR := Lib.hid (HST.out.done (by rw [← HZ.out]; omega))
      go_wp2_with fail
      refine leave_idle idle_Scan (by simp [go_sem]) (by simp [results, Tryz.results18, go_sem]; rfl) ?_
      unfold KPost
      rw [HR.out]
      exact ⟨A5, c5, rfl, hown, hbel⟩
def SrRel (w : World) (l : List UInt8) (X : List Tk × Nat × Int) (v5 v6 : Value) (wr : World) : Prop :=
  ∃ (p : Nat) (acc : List Tk), v6 = .int .i64 (p : Int) ∧ p ≤ l.length ∧ acc.length ≤ 4096 ∧ wr.ownsRow w.heap.size 100 4 v5 acc.length (acc.flatMap Tk.cells) ∧ Below w.heap.size w wr ∧ ScanTo l p acc X
theorem rscan (s : ByteArray) (w : World) (hs : s.size ≤ 1099511627776) : Calls Tryz.prog 126 #[.string s] w (KPost w (scanO s.data.toList)) := by
  have HZ := Lib.hid (Lib.size_eq s)
  by_cases hbig : 32768 < s.size
  · have t1 : (32768 : Int) < (s.size : Int) := by omega
    have HR := Lib.hid (scanO_full (s := s.data.toList) (by rw [← HZ.out]; exact hbig))
    go_enter Tryz.func126, Tryz.ntmps126
    go_wp2_with fail
    refine bodyPost_ret (by simp [results, Tryz.results126, go_sem]; rfl) rfl ?_
    unfold KPost
    rw [HR.out]
    exact ⟨none, 0, rfl, World.ownsRow_nil _ _ _ _, by (exact belQ)⟩
  have t1 : ¬ (32768 : Int) < (s.size : Int) := by omega
  have ST := ScanTo.start (s := s.data.toList) (by rw [← HZ.out]; omega)
  obtain ⟨X, hX⟩ : ∃ X, scanO s.data.toList = X := ⟨_, rfl⟩
  rw [hX] at ST
  rw [hX]
  have HS := Lib.hid ST
  clear hX ST
  go_enter Tryz.func126, Tryz.ntmps126
  go_wp2_with fail
  go_loopw [5, 6] (fun v5 v6 wr => SrRel w s.data.toList X v5 v6 wr) (fun _ v6 _ => s.size - (intOf v6).toNat)
  case atStart => exact ⟨0, [], rfl, by omega, by simp, World.ownsRow_nil _ _ _ _, Below.refl _ _, HS.out⟩
  case round =>
    clear HS
    obtain ⟨p, acc, rfl, hp, hacc, hown, hbel, hST⟩ := hrel
    have HST := Lib.hid hST
    clear hST
    rw [← HZ.out] at hp
    have hzz := hbel.size
    obtain ⟨A5, c5, rfl, h51, h52⟩ := own_slice hown
    by_cases hlt : p < s.size
    · obtain ⟨c, hc⟩ : ∃ c, s.data.toList[p]? = some c := ⟨_, List.getElem?_eq_getElem (by rw [← HZ.out]; exact hlt)⟩
      have hix := run_idx hc
      have HC := Lib.hid hc
      have hp1 : (p : Int) < (s.size : Int) := by omega
      have hp2 : (p : Int) ≤ (s.size : Int) := by omega
      have hp0 : (0 : Int) ≤ (p : Int) := by omega
      have e10 := eqByte c 10 (by omega)
      have e32 := eqByte c 32 (by omega)
      have e9 := eqByte c 9 (by omega)
      have e13 := eqByte c 13 (by omega)
      have e35 := eqByte c 35 (by omega)
      simp only [Int.cast_ofNat_Int] at e10 e32 e9 e13 e35
      clear hc
      by_cases cw : c = 32 ∨ c = 9 ∨ c = 13 ∨ c = 10
      · have HE := Lib.hid (HST.out.ws HC.out cw)
        clear e10 e32 e9 e13 e35
        rcases cw with rfl | rfl | rfl | rfl
        all_goals go_wp2_with fail
        all_goals go_roundw
        all_goals first
          | (case rel => exact ⟨p + 1, acc, by go_num, by rw [← HZ.out]; omega, hacc, hown, hbel, HE.out⟩)
          | (case measure => simp [intOf]; omega)
      have c32 : c ≠ 32 := fun h => cw (.inl h)
      have c9 : c ≠ 9 := fun h => cw (.inr (.inl h))
      have c13 : c ≠ 13 := fun h => cw (.inr (.inr (.inl h)))
      have c10 : c ≠ 10 := fun h => cw (.inr (.inr (.inr h)))
      have t10 : ((c.toNat : Int) == 10) = false := by rw [e10]; simpa using c10
      have t32 : ((c.toNat : Int) == 32) = false := by rw [e32]; simpa using c32
      have t9 : ((c.toNat : Int) == 9) = false := by rw [e9]; simpa using c9
      have t13 : ((c.toNat : Int) == 13) = false := by rw [e13]; simpa using c13
      by_cases c35 : c = 35
      · have t35 : ((c.toNat : Int) == 35) = true := by rw [e35]; simpa using c35
        have HI := Lib.hid (HST.out.hash (c35 ▸ HC.out))
        clear e10 e32 e9 e13 e35 c32 c9 c13 cw
        have HC10 := Lib.hid c10
        clear c10 c35
        go_wp2_with fail
        go_loop [6] (fun i => ∃ q : Nat, p ≤ q ∧ q ≤ s.size ∧ i = .int .i64 (q : Int) ∧ Hid (ScanIn s.data.toList q acc X)) (fun i => s.size - (intOf i).toNat)
        case atStart => exact ⟨p, Nat.le_refl _, hp, rfl, HI.out⟩
        case round =>
          obtain ⟨q, hq, hqn, rfl, hQ⟩ := hrel
          by_cases hgo : ∃ d, s.data.toList[q]? = some d ∧ d ≠ 10
          · obtain ⟨d, hd, hd10⟩ := hgo
            have hqlt : q < s.size := by rw [HZ.out]; exact (List.getElem?_eq_some_iff.1 hd).1
            have hiq := run_idx hd
            have u10 : ((d.toNat : Int) != 10) = true := by
              have e := eqByte d 10 (by omega)
              simp only [Int.cast_ofNat_Int] at e
              rw [bne, e]; simpa using hd10
            have HE := Lib.hid (hQ.out.next hd hd10)
            have hq1 : (q : Int) < (s.size : Int) := by omega
            have hq0 : (0 : Int) ≤ (q : Int) := by omega
            clear hd hd10
            go_wp2_with fail
            go_round
            case rel => exact ⟨q + 1, by omega, by omega, by go_num, HE⟩
            case measure => simp [intOf]; omega
          · have hpq : p < q := by
              rcases Nat.lt_or_ge p q with h | h
              · exact h
              · exfalso
                obtain rfl : p = q := by omega
                exact hgo ⟨c, HC.out, HC10.out⟩
            have HG := Lib.hid hgo
            clear hgo
            rcases Nat.lt_or_ge q s.size with hqlt | hge
            · obtain ⟨d, hd⟩ : ∃ d, s.data.toList[q]? = some d := ⟨_, List.getElem?_eq_getElem (by rw [← HZ.out]; exact hqlt)⟩
              have hd10 : d = 10 := by
                rcases Decidable.em (d = 10) with h | h
                · exact h
                · exact absurd ⟨d, hd, h⟩ HG.out
              subst hd10
              have hiq := run_idx hd
              have HE := Lib.hid (hQ.out.nl hd)
              have hq1 : (q : Int) < (s.size : Int) := by omega
              have hq0 : (0 : Int) ≤ (q : Int) := by omega
              clear hd
              go_wp2_with fail
              go_roundw
              case rel => exact ⟨q, acc, rfl, by rw [← HZ.out]; omega, hacc, hown, hbel, HE.out⟩
              case measure => simp [intOf]; omega
            · have HE := Lib.hid (hQ.out.over (by rw [← HZ.out]; exact hge))
              have hq1 : ¬ (q : Int) < (s.size : Int) := by omega
              go_wp2_with fail
              go_roundw
              case rel => exact ⟨q, acc, rfl, by rw [← HZ.out]; omega, hacc, hown, hbel, HE.out⟩
              case measure => simp [intOf]; omega
      have t35 : ((c.toNat : Int) == 35) = false := by rw [e35]; simpa using c35
      have hnw : ¬ wsB c := by
        unfold wsB
        rintro (h | h | h | h | h)
        · exact c10 h
        · exact c32 h
        · exact c9 h
        · exact c13 h
        · exact c35 h
      have hT := fun w1 => rtoken_c (s.extract p s.size) w1 (by rw [Lib.size_eq, sub_extract, List.length_drop, ← HZ.out]; omega) (by rw [Lib.size_eq, sub_extract, List.length_drop, ← HZ.out]; omega)
      simp only [sub_extract] at hT
      obtain ⟨⟨t, m, ec⟩, hy⟩ : ∃ y, tokO (s.data.toList.drop p) = y := ⟨_, rfl⟩
      rw [hy] at hT
      obtain ⟨k1, k2, k3⟩ := HST.out.tok HC.out hnw hy
      have K1 := Lib.hid k1
      have K2 := Lib.hid k2
      have K3 := Lib.hid k3
      clear hy k1 k2 k3 e10 e32 e9 e13 e35 c32 c9 c13 c10 c35 cw hnw
      unfold TkPost at hT
      simp only at hT
      by_cases he : ec = 0
      · subst he
        by_cases h4 : acc.length = 4096
        · have t4 : ((acc.length : Int) == 4096) = true := by rw [beq_iff_eq]; omega
          have HR := Lib.hid (K2.out rfl h4)
          clear h4
          go_wp2_with (go_at_call 180; refine (hT _).mono ?_; rintro e w1 ⟨rfl, hb1⟩; have hz1 := hb1.size)
          refine bodyPost_ret (by simp [results, Tryz.results126, go_sem]; rfl) rfl ?_
          unfold KPost
          rw [HR.out]
          exact ⟨none, 0, rfl, World.ownsRow_nil _ _ _ _, by (exact belQ)⟩
        · have t4 : ((acc.length : Int) == 4096) = false := by rw [beq_eq_false_iff_ne]; omega
          obtain ⟨hS2, hm1, hm2⟩ := K3.out rfl h4
          rw [← HZ.out] at hm2
          have HS2 := Lib.hid hS2
          have h4' : acc.length < 4096 := by omega
          clear h4 hS2
          go_wp2_with (first
            | (go_at_call 180; refine (hT _).mono ?_; rintro e w1 ⟨rfl, hb1⟩; have hz1 := hb1.size; have own1 := own_below hown hb1)
            | (at_builtin; refine wpList_app (v := .slice A5 acc.length c5) rfl _ _ stK rfl rfl (own1.alloc _) rfl (by simp) rfl (by simp [Value.oneCell']) (by omega) (by simp; omega) ?_; intro v' w3 own3 hg3 hat3; have hz3 := hg3.size; simp at hz3))
          have hb3 := below_app ((below_step hb1 hbel (Nat.le_refl _)).alloc (by omega) _) (own1.alloc _) hg3 (Nat.le_refl _) (by simp; omega)
          go_roundw
          case rel =>
            refine ⟨p + m, acc ++ [{ t with pos := (p : Int) }], by go_num, by rw [← HZ.out]; omega, by simp; omega, ?_, hb3, HS2.out⟩
            rw [List.length_append, kcells_snoc]
            exact own3
          case measure => simp [intOf]; omega
      · have te : (ec != 0) = true := by rw [bne_iff_ne]; exact he
        have te2 : (ec == 0) = false := by rw [beq_eq_false_iff_ne]; exact he
        have HR := Lib.hid (K1.out he)
        clear he
        go_wp2_with (go_at_call 180; refine (hT _).mono ?_; rintro e w1 ⟨rfl, hb1⟩; have hz1 := hb1.size)
        refine bodyPost_ret (by simp [results, Tryz.results126, go_sem]; rfl) rfl ?_
        unfold KPost
        rw [HR.out]
        exact ⟨none, 0, rfl, World.ownsRow_nil _ _ _ _, by (exact belQ)⟩
    · have hp1 : ¬ (p : Int) < (s.size : Int) := by omega
      have HR := Lib.hid (HST.out.done (by rw [← HZ.out]; omega))
      go_wp2_with fail
      refine bodyPost_ret (by simp [results, Tryz.results126, go_sem]; rfl) rfl ?_
      unfold KPost
      rw [HR.out]
      exact ⟨A5, c5, rfl, hown, hbel⟩
theorem scan_okN {l : Bs} {toks : List Tk} {k : Nat} (h : scanO l = (toks, k, 0)) (z : Int) : (Src.mk toks z).okN := fun t ht hk => by
  have h1 := (cov_all _ _ _ (scanO_cov h).1 t ht).1
  unfold tokOk at h1
  rw [if_neg (by omega), if_pos hk] at h1
  simpa using h1
def nil21 : Array Value := #[.slice none 0 0, .slice none 0 0, .slice none 0 0, .slice none 0 0, .slice none 0 0, .slice none 0 0, .slice none 0 0, .slice none 0 0, .slice none 0 0, .slice none 0 0, .slice none 0 0, .slice none 0 0, .slice none 0 0, .slice none 0 0, .slice none 0 0, .slice none 0 0, .slice none 0 0, .slice none 0 0, .slice none 0 0, .slice none 0 0, .slice none 0 0]
theorem ps_cells (pb : Nat) (A : Option Addr) (c : Nat) (e : Src) : psC ⟨pb, A, c, e, nil21⟩ ⟨0, false, 0, []⟩ (.slice none 0 0) = #[.slice A e.toks.length c, .int .i64 0, .int .i64 e.fin, .bool false, .int .i64 0, .slice none 0 0, .slice none 0 0, .slice none 0 0, .slice none 0 0, .slice none 0 0, .slice none 0 0, .slice none 0 0, .slice none 0 0, .slice none 0 0, .slice none 0 0, .slice none 0 0, .slice none 0 0, .slice none 0 0, .slice none 0 0, .slice none 0 0, .slice none 0 0, .slice none 0 0, .slice none 0 0, .slice none 0 0, .slice none 0 0, .slice none 0 0, .slice none 0 0] := by
  simp [psC, nil21]
theorem ps_new {w : World} {base c : Nat} {A : Option Addr} {toks : List Tk} (own : w.ownsRow base 100 4 (.slice A toks.length c) toks.length (toks.flatMap Tk.cells)) (hl : toks.length ≤ 4096) (z : Int) :
    PsAt ⟨w.heap.size, A, c, ⟨toks, z⟩, nil21⟩ (w.alloc (.cells #[.slice A toks.length c, .int .i64 0, .int .i64 z, .bool false, .int .i64 0, .slice none 0 0, .slice none 0 0, .slice none 0 0, .slice none 0 0, .slice none 0 0, .slice none 0 0, .slice none 0 0, .slice none 0 0, .slice none 0 0, .slice none 0 0, .slice none 0 0, .slice none 0 0, .slice none 0 0, .slice none 0 0, .slice none 0 0, .slice none 0 0, .slice none 0 0, .slice none 0 0, .slice none 0 0, .slice none 0 0, .slice none 0 0, .slice none 0 0] 69)) ⟨0, false, 0, []⟩ (.slice none 0 0) :=
  ⟨by rw [ps_cells]; exact heap_alloc_new w _, (RowOf.of_own own rfl).alloc (Nat.le_refl _) _, Nat.zero_le _, by show toks.length ≤ 100000; omega, World.ownsRow_nil _ _ _ _⟩
structure Col where
  name : Bs
  ty : Int
  ns : Bs
  rf : Bs
  owners : List Int
  joint : Int
  duty : Int
structure Tab where
  name : Bs
  cols : List Col
  erase : Int
  retain : Int
structure Itm where
  name : Bs
  ex : List T
structure Agg where
  name : Bs
  fn : Int
  ex : List T
structure Viw where
  name : Bs
  kind : Int
  left : Bs
  right : Bs
  on : List (Int × Int)
  whr : List T
  items : List Itm
  distinct : Bool
  aggs : List Agg
structure Idx where
  name : Bs
  source : Bs
  column : Int
structure Skt where
  name : Bs
  source : Bs
  column : Int
  kind : Int
  width : Int
  depth : Int
structure Cch where
  name : Bs
  source : Bs
  column : Int
  ttl : Int
structure Rls where
  name : Bs
  source : Bs
  threshold : Int
structure Stm where
  name : Bs
  table : Bs
structure Bkp where
  name : Bs
  tables : List Bs
  keep : Int
structure Cat where
  tables : List Tab
  views : List Viw
  indexes : List Idx
  sketches : List Skt
  caches : List Cch
  releases : List Rls
  streams : List Stm
  backups : List Bkp
def Cat.nil : Cat := ⟨[], [], [], [], [], [], [], []⟩
structure Vn where
  left : Tk
  right : Tk
  on : List (Tk × Tk)
  items : List Xr
  aggs : List Xr
  whr : Xr
def Xr.none_ : Xr := ⟨none, []⟩
structure Dc where
  cat : Cat
  starts : List (List Int)
  owners : List (List (List Tk))
  views : List Vn
  indexes : List (Tk × Tk)
  sketches : List (Tk × Tk)
  caches : List (Tk × Tk)
def Dc.nil : Dc := ⟨Cat.nil, [[], [], [], [], [], [], [], []], [], [], [], [], []⟩
def nameP (e : Src) (s : Ps) : Bs × Ps := ((takeP e s 1).1.text, (takeP e s 1).2)
def numP (e : Src) (s : Ps) : Int × Ps := ((takeP e s 2).1.int, (takeP e s 2).2)
def moreP {α : Type} (e : Src) (el : Ps → α × Ps) : Nat → Ps → List α × Ps
  | 0, s => ([], s)
  | f + 1, s => if isP e s 0 [[44]] = true then
      let x := el { s with pos := s.pos + 1 }
      let r := moreP e el f x.2
      (x.1 :: r.1, r.2)
    else ([], s)
def listP {α : Type} (e : Src) (el : Ps → α × Ps) (s : Ps) : List α × Ps :=
  let x := el s
  let r := moreP e el (e.toks.length + 1) x.2
  (x.1 :: r.1, r.2)
def wDuty : Bs := [100, 117, 116, 121]
def isDutyP (e : Src) (s : Ps) : Bool := isP e s 0 [wDuty] && isKindP e s 1 2
def ownersP (e : Src) : Nat → Ps → List Tk × Ps
  | 0, s => ([], s)
  | f + 1, s => if isKindP e s 0 1 = true ∧ isDutyP e s = false then
      let x := takeP e s 1
      let r := ownersP e f x.2
      (x.1 :: r.1, r.2)
    else ([], s)
def optP {α : Type} (e : Src) (w : Bs) (d : α) (p : Ps → α × Ps) (s : Ps) : α × Ps := if isP e s 0 [w] = true then p { s with pos := s.pos + 1 } else (d, s)
def wText : Bs := [116, 101, 120, 116]
def personalP (e : Src) (s : Ps) : (Int × List Tk) × Ps :=
  let a := acceptP e s [[97, 108, 108]]
  let b := expectP e a.2 [[98, 121]]
  let x := takeP e b.2 1
  let r := ownersP e (e.toks.length + 1) x.2
  ((if a.1 = true then 1 else 0, x.1 :: r.1), r.2)
def columnP (e : Src) (s : Ps) : (Col × List Tk) × Ps :=
  let n := nameP e s
  let t := expectP e n.2 [[105, 110, 116], wText]
  let ns := optP e [110, 97, 109, 101, 115, 112, 97, 99, 101] [] (nameP e) t.2
  let rf := optP e [114, 101, 102, 101, 114, 101, 110, 99, 101, 115] [] (nameP e) ns.2
  let p := optP e [112, 101, 114, 115, 111, 110, 97, 108] (0, []) (personalP e) rf.2
  let d := optP e wDuty 0 (numP e) p.2
  ((⟨n.1, if t.1 = wText then 2 else 1, ns.1, rf.1, [], p.1.1, d.1⟩, p.1.2), d.2)
def tableP (e : Src) (s : Ps) : (Tab × List (List Tk)) × Ps :=
  let n := nameP e s
  let l := listP e (columnP e) (expectP e n.2 [[40]]).2
  let c := expectP e l.2 [[41]]
  let r := optP e [101, 114, 97, 115, 101] 0 (fun s => (1, (expectP e s [[114, 111, 119]]).2)) c.2
  let t := optP e [114, 101, 116, 97, 105, 110] 0 (numP e) r.2
  ((⟨n.1, l.1.map Prod.fst, r.1, t.1⟩, l.1.map Prod.snd), t.2)
def itemP (e : Src) (s : Ps) : (Bs × Xr) × Ps :=
  let n := nameP e s
  let x := wholeP e (expectP e n.2 [[61]]).2
  ((n.1, x.1), x.2)
def argP (e : Src) (s : Ps) : Xr × Ps :=
  let x := wholeP e (expectP e s [[40]]).2
  (x.1, (expectP e x.2 [[41]]).2)
def wCount : Bs := [99, 111, 117, 110, 116]
def wAggs : List Bs := [wCount, [115, 117, 109], [109, 105, 110], [109, 97, 120], [109, 101, 100, 105, 97, 110]]
def aggP (e : Src) (s : Ps) : (Agg × Xr) × Ps :=
  let n := nameP e s
  let w := expectP e (expectP e n.2 [[61]]).2 wAggs
  match findP wAggs w.1 with
  | none => ((⟨n.1, 0, []⟩, Xr.none_), w.2)
  | some 0 => ((⟨n.1, 0, []⟩, Xr.none_), w.2)
  | some (k + 1) => ((⟨n.1, (k + 1 : Nat), []⟩, (argP e w.2).1), (argP e w.2).2)
def pairP (e : Src) (s : Ps) : (Tk × Tk) × Ps :=
  let a := takeP e s 1
  let b := takeP e (expectP e a.2 [[61]]).2 1
  ((a.1, b.1), b.2)
def joinP (e : Src) (s : Ps) : (Tk × List (Tk × Tk)) × Ps :=
  let r := takeP e s 1
  let o := optP e [111, 110] [] (listP e (pairP e)) r.2
  ((r.1, o.1), o.2)
def inputsP (e : Src) (s : Ps) : (Tk × (Tk × List (Tk × Tk)) × Xr) × Ps :=
  let l := takeP e (expectP e s [[102, 114, 111, 109]]).2 1
  let j := optP e [106, 111, 105, 110] (Tk.zero, []) (joinP e) l.2
  let w := optP e [119, 104, 101, 114, 101] Xr.none_ (wholeP e) j.2
  ((l.1, j.1, w.1), w.2)
def wSelect : Bs := [115, 101, 108, 101, 99, 116]
def wGroup : Bs := [103, 114, 111, 117, 112]
def wUnion : Bs := [117, 110, 105, 111, 110]
def wDistinct : Bs := [100, 105, 115, 116, 105, 110, 99, 116]
def wWith : Bs := [119, 105, 116, 104]
def mkView (name : Bs) (kind : Int) (distinct : Bool) (its : List (Bs × Xr)) (ags : List (Agg × Xr)) (i : Tk × (Tk × List (Tk × Tk)) × Xr) : Viw × Vn :=
  (⟨name, kind, i.1.text, i.2.1.1.text, [], [], its.map fun x => ⟨x.1, []⟩, distinct, ags.map Prod.fst⟩, ⟨i.1, i.2.1.1, i.2.1.2, its.map Prod.snd, ags.map Prod.snd, i.2.2⟩)
def viewP (e : Src) (s : Ps) : (Viw × Vn) × Ps :=
  let n := nameP e s
  let w := expectP e n.2 [wSelect, wGroup, wUnion]
  if w.1 = wSelect then
    let d := if isP e w.2 0 [wDistinct] = true ∧ isP e w.2 1 [[61]] = false then acceptP e w.2 [wDistinct] else (false, w.2)
    let its := listP e (itemP e) d.2
    let i := inputsP e its.2
    (mkView n.1 0 d.1 its.1 [] i.1, i.2)
  else if w.1 = wGroup then
    let its := if isP e w.2 0 [wWith] = false ∨ isP e w.2 1 [[61]] = true then listP e (itemP e) w.2 else ([], w.2)
    let ags := listP e (aggP e) (expectP e its.2 [wWith]).2
    let i := inputsP e ags.2
    (mkView n.1 1 false its.1 ags.1 i.1, i.2)
  else if w.1 = wUnion then
    let l := takeP e w.2 1
    let r := takeP e l.2 1
    (mkView n.1 2 false [] [] (l.1, (r.1, []), Xr.none_), r.2)
  else (mkView n.1 0 false [] [] (Tk.zero, (Tk.zero, []), Xr.none_), w.2)
def placeP (e : Src) (s : Ps) : (Tk × Tk) × Ps :=
  let a := takeP e s 1
  let b := takeP e (expectP e a.2 [[46]]).2 1
  ((a.1, b.1), b.2)
def wOn : Bs := [111, 110]
def wOf : Bs := [111, 102]
def wSketches : List Bs := [wCount, [98, 108, 111, 111, 109], [98, 111, 116, 116, 111, 109]]
def wKinds : List Bs := [[116, 97, 98, 108, 101], [118, 105, 101, 119], [105, 110, 100, 101, 120], [115, 107, 101, 116, 99, 104], [99, 97, 99, 104, 101], [114, 101, 108, 101, 97, 115, 101], [115, 116, 114, 101, 97, 109], [98, 97, 99, 107, 117, 112]]
def kindP (e : Src) (k : Nat) (s : Ps) (d : Dc) : Dc × Ps := match k with
  | 0 =>
    let t := tableP e s
    ({ d with cat := { d.cat with tables := d.cat.tables ++ [t.1.1] }, owners := d.owners ++ [t.1.2] }, t.2)
  | 1 =>
    let v := viewP e s
    ({ d with cat := { d.cat with views := d.cat.views ++ [v.1.1] }, views := d.views ++ [v.1.2] }, v.2)
  | 2 =>
    let n := nameP e s
    let p := placeP e (expectP e n.2 [wOn]).2
    ({ d with cat := { d.cat with indexes := d.cat.indexes ++ [⟨n.1, p.1.1.text, 0⟩] }, indexes := d.indexes ++ [p.1] }, p.2)
  | 3 =>
    let n := nameP e s
    let w := expectP e n.2 wSketches
    let a := numP e w.2
    let b := numP e a.2
    let p := placeP e (expectP e b.2 [wOn]).2
    ({ d with cat := { d.cat with sketches := d.cat.sketches ++ [⟨n.1, p.1.1.text, 0, ((findP wSketches w.1).getD 0 : Nat), a.1, b.1⟩] }, sketches := d.sketches ++ [p.1] }, p.2)
  | 4 =>
    let n := nameP e s
    let p := placeP e (expectP e n.2 [wOn]).2
    let a := numP e (expectP e p.2 [[102, 111, 114]]).2
    ({ d with cat := { d.cat with caches := d.cat.caches ++ [⟨n.1, p.1.1.text, 0, a.1⟩] }, caches := d.caches ++ [p.1] }, a.2)
  | 5 =>
    let n := nameP e s
    let o := nameP e (expectP e n.2 [wOf]).2
    let a := numP e (expectP e o.2 [[97, 98, 111, 118, 101]]).2
    ({ d with cat := { d.cat with releases := d.cat.releases ++ [⟨n.1, o.1, a.1⟩] } }, a.2)
  | 6 =>
    let n := nameP e s
    let o := nameP e (expectP e n.2 [wOf]).2
    ({ d with cat := { d.cat with streams := d.cat.streams ++ [⟨n.1, o.1⟩] } }, o.2)
  | _ =>
    let n := nameP e s
    let l := listP e (nameP e) (expectP e n.2 [wOf]).2
    let a := numP e (expectP e l.2 [[107, 101, 101, 112]]).2
    ({ d with cat := { d.cat with backups := d.cat.backups ++ [⟨n.1, l.1, a.1⟩] } }, a.2)
def addAt (l : List (List Int)) (k : Nat) (p : Int) : List (List Int) := l.modify k (· ++ [p])
def declP (e : Src) (s : Ps) (d : Dc) : Dc × Ps :=
  let w := expectP e s wKinds
  match findP wKinds w.1 with
  | none => (d, w.2)
  | some k => kindP e k w.2 { d with starts := addAt d.starts k (e.toks.getD s.pos Tk.zero).pos }
def sourceP (e : Src) : Nat → Ps → Dc → Dc × Ps
  | 0, s, d => (d, s)
  | f + 1, s, d => if s.pos < e.toks.length then
      let x := declP e s d
      sourceP e f (expectP e x.2 [[59]]).2 x.1
    else (d, s)
abbrev Er := Int × Int
def findCol (l : List Bs) (t : Tk) : Except Er Int := match findP l t.text with
  | none => .error (t.pos, 3)
  | some n => .ok n
def mapE {α β : Type} (f : α → Except Er β) : List α → Except Er (List β)
  | [] => .ok []
  | a :: l => match f a with
    | .error p => .error p
    | .ok b => match mapE f l with
      | .error p => .error p
      | .ok m => .ok (b :: m)
def resTable (t : Tab) (ow : List (List Tk)) : Except Er Tab := match mapE (fun l => mapE (findCol (t.cols.map Col.name)) l) ow with
  | .error p => .error p
  | .ok m => .ok { t with cols := (t.cols.zip m).map fun x => { x.1 with owners := x.2.foldl addL [] } }
end Go.Proofs.YtpnfbehbheddeaaGreatDoor
