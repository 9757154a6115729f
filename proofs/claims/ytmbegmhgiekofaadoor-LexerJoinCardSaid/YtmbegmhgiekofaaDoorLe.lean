/- Contracts of Scan, of the program and of the reference: strings of at most 2^40 bytes; the program's where the variable ErrRange can be read. -/
import Derived.Test.YtmbegmhgiekofaaDoorLd
namespace Go.Proofs.YtmbegmhgiekofaaDoor
open Go.RowKit

abbrev RowK := @RowOf Tk Tk.cells
theorem stK : SliceTy Tryd.prog 33 38 4 40 := SliceTy.mk' Tryd.underlying33 (z := .agg #[.int .i64 0, .string ⟨#[]⟩, .int .i64 0, .int .i64 0]) (by kernel_rfl) rfl (by decide) (by decide)
def KPost (w : World) (x : List Tk × Nat × Int) (e : Ending) (w' : World) : Prop :=
  ∃ (A : Option Addr) (c : Nat), e = .returned (.tuple #[.slice A x.1.length c, .int .i64 (x.2.1 : Int), .int .i64 x.2.2]) ∧ w'.ownsRow w.heap.size 38 4 (.slice A x.1.length c) x.1.length (x.1.flatMap Tk.cells) ∧ Below w.heap.size w w'
theorem idle_Scan (w : World) : CallsD Tryd.prog 26 #[] .returning w fun e u' w' => e = .returned (.tuple #[]) ∧ u' = .returning ∧ w' = w := by
  refine callsD_of_wpS Tryd.func26 rfl fun c₀ cs hu => ?_
  apply wpS_region
  cases c₀
  simp_all [wpOpsS, go_sem, recoverD, Tryd.ntmps26, bodyPostS, results, Tryd.results26]
theorem xskip_at (s : ByteArray) (q : Nat) (i : Int) (w : World) (hi : i = (q : Int)) (hs : s.size ≤ 1099511627776) (hq : q ≤ s.size) : Calls Tryd.prog 27 #[.string s, .int .i64 i] w fun e w' => e = .returned (.int .i64 ((q + skipN false (s.data.toList.drop q) : Nat) : Int)) ∧ w = w' := by
  subst hi
  exact xskip s q w hs hq
theorem jump_no {s : List UInt8} {p : Nat} {c : UInt8} (h : s[p + skipN false (s.drop p)]? = some c) : ¬ wsB c := by
  have h2 := drop_at h
  rw [← List.drop_drop] at h2
  have := skipN_end (s.drop p) false c _ h2
  unfold wsB
  rintro (h | h | h | h | h) <;> simp [h] at this
theorem jump_le {s : List UInt8} {p : Nat} (hp : p ≤ s.length) : p + skipN false (s.drop p) ≤ s.length := by
  have := skipN_le (s.drop p) false
  rw [List.length_drop] at this
  omega
theorem kcells_snoc (acc : List Tk) (t : Tk) : (acc ++ [t]).flatMap Tk.cells = acc.flatMap Tk.cells ++ t.cells := by simp
/-- After some tokens of the program's Scan: the next one stands at p. -/
def ScRel (w : World) (l : List UInt8) (X : List Tk × Nat × Int) (v5 v6 : Value) (wr : World) : Prop :=
  ∃ (p : Nat) (acc : List Tk), v6 = .int .i64 (p : Int) ∧ p ≤ l.length ∧ acc.length ≤ 4096 ∧ wr.ownsRow w.heap.size 38 4 v5 acc.length (acc.flatMap Tk.cells) ∧ Below w.heap.size w wr ∧ ScanTo l p acc X ∧ (∀ c, l[p]? = some c → ¬ wsB c)
set_option maxRecDepth 100000 in
set_option maxHeartbeats 4000000 in
theorem xscan (s : ByteArray) (w : World) (hs : s.size ≤ 1099511627776) (hE : GE w) : Calls Tryd.prog 15 #[.string s] w (KPost w (scanO s.data.toList)) := by
  have hmf : ∀ (fn : Fn) (first cap : Array Value) (w : World), (Instr.makeFunc fn first cap).run Tryd.prog w = .ok (.func fn first cap) w := fun _ _ _ _ => rfl
  have HZ := Lib.hid (Lib.size_eq s)
  by_cases hbig : 32768 < s.size
  · have t1 : (32768 : Int) < (s.size : Int) := by omega
    have HR := Lib.hid (scanO_full (s := s.data.toList) (by rw [← HZ.out]; exact hbig))
    go_enter_defers Tryd.func15, Tryd.ntmps15
    go_wp2_with fail
    refine leave_idle idle_Scan (by simp [go_sem]) (by simp [results, Tryd.results15, go_sem]; rfl) ?_
    unfold KPost
    rw [HR.out]
    exact ⟨none, 0, rfl, World.ownsRow_nil _ _ _ _, by (repeat (first | (with_reducible exact Below.refl _ _) | (with_reducible assumption) | (with_reducible refine Below.drew ?_) | (with_reducible refine below_drewN ?_ _) | ((with_reducible refine Below.setCell ?_ ?_ _); rotate_left; (focus (first | (simp; done) | (simp; omega) | omega))) | ((with_reducible refine Below.alloc ?_ ?_ _); rotate_left; (focus (first | (simp; done) | (simp; omega) | omega))) | ((with_reducible apply below_step1); (focus (with_reducible assumption)))))⟩
  have t1 : ¬ (32768 : Int) < (s.size : Int) := by omega
  have ST := ScanTo.start (s := s.data.toList) (by rw [← HZ.out]; omega)
  obtain ⟨X, hX⟩ : ∃ X, scanO s.data.toList = X := ⟨_, rfl⟩
  rw [hX] at ST
  rw [hX]
  have HS := Lib.hid ST.jump
  have H0 := Lib.hid (fun c => jump_no (s := s.data.toList) (p := 0) (c := c))
  have HL := Lib.hid (jump_le (s := s.data.toList) (p := 0) (by omega))
  have hk := fun w => xskip_at s 0 0 w rfl hs (by omega)
  obtain ⟨p0, hp0⟩ : ∃ p0, 0 + skipN false (s.data.toList.drop 0) = p0 := ⟨_, rfl⟩
  rw [hp0] at HS H0 HL hk
  clear hX ST hp0
  go_enter_defers Tryd.func15, Tryd.ntmps15
  go_wp2_with (go_at_call 27; refine (hk _).mono ?_; rintro e w1 ⟨rfl, rfl⟩)
  clear hk
  go_loopw [5, 6] (fun v5 v6 wr => ScRel w s.data.toList X v5 v6 wr) (fun _ v6 _ => s.size - (intOf v6).toNat)
  case atStart => exact ⟨p0, [], rfl, HL.out, by simp, World.ownsRow_nil _ _ _ _, Below.refl _ _, HS.out, H0.out⟩
  case round =>
    clear HS H0 HL
    obtain ⟨p, acc, rfl, hp, hacc, hown, hbel, hST, hnw⟩ := hrel
    have HST := Lib.hid hST
    have HNW := Lib.hid hnw
    clear hST hnw
    rw [← HZ.out] at hp
    have hzz := hbel.size
    obtain ⟨A5, c5, rfl, h51, h52⟩ := own_slice hown
    by_cases hlt : p < s.size
    · obtain ⟨c, hc⟩ : ∃ c, s.data.toList[p]? = some c := ⟨_, List.getElem?_eq_getElem (by rw [← HZ.out]; exact hlt)⟩
      have hp1 : (p : Int) < (s.size : Int) := by omega
      have hp2 : (p : Int) ≤ (s.size : Int) := by omega
      have hp0 : (0 : Int) ≤ (p : Int) := by omega
      have hT := fun w1 hb => xscanToken (s.extract p s.size) w1 (by rw [Lib.size_eq, sub_extract, List.length_drop, ← HZ.out]; omega) (by rw [Lib.size_eq, sub_extract, List.length_drop, ← HZ.out]; omega) (GE.below hE hb)
      simp only [sub_extract] at hT
      obtain ⟨⟨t, m, ec⟩, hy⟩ : ∃ y, tokO (s.data.toList.drop p) = y := ⟨_, rfl⟩
      rw [hy] at hT
      obtain ⟨k1, k2, k3⟩ := HST.out.tok hc (HNW.out c hc) hy
      have K1 := Lib.hid k1
      have K2 := Lib.hid k2
      have K3 := Lib.hid k3
      clear hy k1 k2 k3 hc
      unfold TkPost at hT
      simp only at hT
      by_cases he : ec = 0
      · subst he
        by_cases h4 : acc.length = 4096
        · have t4 : ((acc.length : Int) == 4096) = true := by rw [beq_iff_eq]; omega
          have HR := Lib.hid (K2.out rfl h4)
          clear h4
          go_wp2_with (go_at_call 28; refine (hT _ (by (repeat (first | (with_reducible exact Below.refl _ _) | (with_reducible assumption) | (with_reducible refine Below.drew ?_) | (with_reducible refine below_drewN ?_ _) | ((with_reducible refine Below.setCell ?_ ?_ _); rotate_left; (focus (first | (simp; done) | (simp; omega) | omega))) | ((with_reducible refine Below.alloc ?_ ?_ _); rotate_left; (focus (first | (simp; done) | (simp; omega) | omega))) | ((with_reducible apply below_step1); (focus (with_reducible assumption))))))).mono ?_; rintro e w1 ⟨rfl, hb1⟩; have hz1 := hb1.size)
          refine leave_idle idle_Scan (by simp [go_sem]) (by simp [results, Tryd.results15, go_sem]; rfl) ?_
          unfold KPost
          rw [HR.out]
          exact ⟨none, 0, rfl, World.ownsRow_nil _ _ _ _, by (repeat (first | (with_reducible exact Below.refl _ _) | (with_reducible assumption) | (with_reducible refine Below.drew ?_) | (with_reducible refine below_drewN ?_ _) | ((with_reducible refine Below.setCell ?_ ?_ _); rotate_left; (focus (first | (simp; done) | (simp; omega) | omega))) | ((with_reducible refine Below.alloc ?_ ?_ _); rotate_left; (focus (first | (simp; done) | (simp; omega) | omega))) | ((with_reducible apply below_step1); (focus (with_reducible assumption)))))⟩
        · have t4 : ((acc.length : Int) == 4096) = false := by rw [beq_eq_false_iff_ne]; omega
          obtain ⟨hS2, hm1, hm2⟩ := K3.out rfl h4
          rw [← HZ.out] at hm2
          have HS2 := Lib.hid hS2.jump
          have H02 := Lib.hid (fun c => jump_no (s := s.data.toList) (p := p + m) (c := c))
          have HL2 := Lib.hid (jump_le (s := s.data.toList) (p := p + m) (by rw [← HZ.out]; omega))
          have hk := fun i w hi => xskip_at s (p + m) i w hi hs (by omega)
          obtain ⟨q, hq⟩ : ∃ q, p + m + skipN false (s.data.toList.drop (p + m)) = q := ⟨_, rfl⟩
          rw [hq] at HS2 H02 HL2 hk
          have hq2 : p + m ≤ q := by omega
          have hq3 : q ≤ s.size := by rw [HZ.out]; exact HL2.out
          clear hq hS2
          have h4' : acc.length < 4096 := by omega
          clear h4
          go_wp2_with (first
            | (go_at_call 28; refine (hT _ (by (repeat (first | (with_reducible exact Below.refl _ _) | (with_reducible assumption) | (with_reducible refine Below.drew ?_) | (with_reducible refine below_drewN ?_ _) | ((with_reducible refine Below.setCell ?_ ?_ _); rotate_left; (focus (first | (simp; done) | (simp; omega) | omega))) | ((with_reducible refine Below.alloc ?_ ?_ _); rotate_left; (focus (first | (simp; done) | (simp; omega) | omega))) | ((with_reducible apply below_step1); (focus (with_reducible assumption))))))).mono ?_; rintro e w1 ⟨rfl, hb1⟩; have hz1 := hb1.size; have own1 := own_below hown hb1)
            | (at_builtin; refine wpList_app (v := .slice A5 acc.length c5) rfl _ _ stK rfl rfl (own1.alloc _) rfl (by simp) rfl (by simp [Value.oneCell']) (by omega) (by simp; omega) ?_; intro v' w3 own3 hg3 hat3; have hz3 := hg3.size; simp at hz3)
            | (go_at_call 27; refine (hk _ _ (by omega)).mono ?_; rintro e w4 ⟨rfl, rfl⟩))
          have hb3 := below_app ((below_step hb1 hbel (Nat.le_refl _)).alloc (by omega) _) (own1.alloc _) hg3 (Nat.le_refl _) (by simp; omega)
          go_roundw
          case rel =>
            refine ⟨q, acc ++ [{ t with pos := (p : Int) }], rfl, HL2.out, by simp; omega, ?_, hb3, HS2.out, H02.out⟩
            rw [List.length_append, kcells_snoc]
            exact own3
          case measure => simp [intOf]; omega
      · have te : (ec != 0) = true := by rw [bne_iff_ne]; exact he
        have te2 : (ec == 0) = false := by rw [beq_eq_false_iff_ne]; exact he
        have HR := Lib.hid (K1.out he)
        clear he
        go_wp2_with (go_at_call 28; refine (hT _ (by (repeat (first | (with_reducible exact Below.refl _ _) | (with_reducible assumption) | (with_reducible refine Below.drew ?_) | (with_reducible refine below_drewN ?_ _) | ((with_reducible refine Below.setCell ?_ ?_ _); rotate_left; (focus (first | (simp; done) | (simp; omega) | omega))) | ((with_reducible refine Below.alloc ?_ ?_ _); rotate_left; (focus (first | (simp; done) | (simp; omega) | omega))) | ((with_reducible apply below_step1); (focus (with_reducible assumption))))))).mono ?_; rintro e w1 ⟨rfl, hb1⟩; have hz1 := hb1.size)
        refine leave_idle idle_Scan (by simp [go_sem]) (by simp [results, Tryd.results15, go_sem]; rfl) ?_
        unfold KPost
        rw [HR.out]
        exact ⟨none, 0, rfl, World.ownsRow_nil _ _ _ _, by (repeat (first | (with_reducible exact Below.refl _ _) | (with_reducible assumption) | (with_reducible refine Below.drew ?_) | (with_reducible refine below_drewN ?_ _) | ((with_reducible refine Below.setCell ?_ ?_ _); rotate_left; (focus (first | (simp; done) | (simp; omega) | omega))) | ((with_reducible refine Below.alloc ?_ ?_ _); rotate_left; (focus (first | (simp; done) | (simp; omega) | omega))) | ((with_reducible apply below_step1); (focus (with_reducible assumption)))))⟩
    · have hp1 : ¬ (p : Int) < (s.size : Int) := by omega
      have HR := Lib.hid (HST.out.done (by rw [← HZ.out]; omega))
      go_wp2_with fail
      refine leave_idle idle_Scan (by simp [go_sem]) (by simp [results, Tryd.results15, go_sem]; rfl) ?_
      unfold KPost
      rw [HR.out]
      exact ⟨A5, c5, rfl, hown, hbel⟩

/-- After some bytes of the reference's Scan. -/
def SrRel (w : World) (l : List UInt8) (X : List Tk × Nat × Int) (v5 v6 : Value) (wr : World) : Prop :=
  ∃ (p : Nat) (acc : List Tk), v6 = .int .i64 (p : Int) ∧ p ≤ l.length ∧ acc.length ≤ 4096 ∧ wr.ownsRow w.heap.size 38 4 v5 acc.length (acc.flatMap Tk.cells) ∧ Below w.heap.size w wr ∧ ScanTo l p acc X
set_option maxRecDepth 100000 in
set_option maxHeartbeats 4000000 in
theorem rscan (s : ByteArray) (w : World) (hs : s.size ≤ 1099511627776) : Calls Tryd.prog 16 #[.string s] w (KPost w (scanO s.data.toList)) := by
  have HZ := Lib.hid (Lib.size_eq s)
  by_cases hbig : 32768 < s.size
  · have t1 : (32768 : Int) < (s.size : Int) := by omega
    have HR := Lib.hid (scanO_full (s := s.data.toList) (by rw [← HZ.out]; exact hbig))
    go_enter Tryd.func16, Tryd.ntmps16
    go_wp2_with fail
    refine bodyPost_ret (by simp [results, Tryd.results16, go_sem]; rfl) rfl ?_
    unfold KPost
    rw [HR.out]
    exact ⟨none, 0, rfl, World.ownsRow_nil _ _ _ _, by (repeat (first | (with_reducible exact Below.refl _ _) | (with_reducible assumption) | (with_reducible refine Below.drew ?_) | (with_reducible refine below_drewN ?_ _) | ((with_reducible refine Below.setCell ?_ ?_ _); rotate_left; (focus (first | (simp; done) | (simp; omega) | omega))) | ((with_reducible refine Below.alloc ?_ ?_ _); rotate_left; (focus (first | (simp; done) | (simp; omega) | omega))) | ((with_reducible apply below_step1); (focus (with_reducible assumption)))))⟩
  have t1 : ¬ (32768 : Int) < (s.size : Int) := by omega
  have ST := ScanTo.start (s := s.data.toList) (by rw [← HZ.out]; omega)
  obtain ⟨X, hX⟩ : ∃ X, scanO s.data.toList = X := ⟨_, rfl⟩
  rw [hX] at ST
  rw [hX]
  have HS := Lib.hid ST
  clear hX ST
  go_enter Tryd.func16, Tryd.ntmps16
  go_wp2_with fail
  go_loopw [5, 6] (fun v5 v6 wr => SrRel w s.data.toList X v5 v6 wr) (fun _ v6 _ => s.size - (intOf v6).toNat)
  case atStart => exact ⟨0, [], rfl, by omega, by simp, World.ownsRow_nil _ _ _ _, Below.refl _ _, HS.out⟩
  case round =>
    clear HS
    obtain ⟨p, acc, rfl, hp, hacc, hown, hbel, hST⟩ := hrel
    have HST := Lib.hid hST
    clear hST
    rw [← HZ.out] at hp
    have hzz := hbel.size
    obtain ⟨A5, c5, rfl, h51, h52⟩ := own_slice hown
    by_cases hlt : p < s.size
    · obtain ⟨c, hc⟩ : ∃ c, s.data.toList[p]? = some c := ⟨_, List.getElem?_eq_getElem (by rw [← HZ.out]; exact hlt)⟩
      have hix := run_idx hc
      have HC := Lib.hid hc
      have hp1 : (p : Int) < (s.size : Int) := by omega
      have hp2 : (p : Int) ≤ (s.size : Int) := by omega
      have hp0 : (0 : Int) ≤ (p : Int) := by omega
      have e10 := eqByte c 10 (by omega)
      have e32 := eqByte c 32 (by omega)
      have e9 := eqByte c 9 (by omega)
      have e13 := eqByte c 13 (by omega)
      have e35 := eqByte c 35 (by omega)
      simp only [Int.cast_ofNat_Int] at e10 e32 e9 e13 e35
      clear hc
      by_cases cw : c = 32 ∨ c = 9 ∨ c = 13 ∨ c = 10
      · have HE := Lib.hid (HST.out.ws HC.out cw)
        clear e10 e32 e9 e13 e35
        rcases cw with rfl | rfl | rfl | rfl
        all_goals go_wp2_with fail
        all_goals go_roundw
        all_goals first
          | (case rel => exact ⟨p + 1, acc, by go_num, by rw [← HZ.out]; omega, hacc, hown, hbel, HE.out⟩)
          | (case measure => simp [intOf]; omega)
      have c32 : c ≠ 32 := fun h => cw (.inl h)
      have c9 : c ≠ 9 := fun h => cw (.inr (.inl h))
      have c13 : c ≠ 13 := fun h => cw (.inr (.inr (.inl h)))
      have c10 : c ≠ 10 := fun h => cw (.inr (.inr (.inr h)))
      have t10 : ((c.toNat : Int) == 10) = false := by rw [e10]; simpa using c10
      have t32 : ((c.toNat : Int) == 32) = false := by rw [e32]; simpa using c32
      have t9 : ((c.toNat : Int) == 9) = false := by rw [e9]; simpa using c9
      have t13 : ((c.toNat : Int) == 13) = false := by rw [e13]; simpa using c13
      by_cases c35 : c = 35
      · have t35 : ((c.toNat : Int) == 35) = true := by rw [e35]; simpa using c35
        have HI := Lib.hid (HST.out.hash (c35 ▸ HC.out))
        clear e10 e32 e9 e13 e35 c32 c9 c13 cw
        have HC10 := Lib.hid c10
        clear c10 c35
        go_wp2_with fail
        go_loop [6] (fun i => ∃ q : Nat, p ≤ q ∧ q ≤ s.size ∧ i = .int .i64 (q : Int) ∧ Hid (ScanIn s.data.toList q acc X)) (fun i => s.size - (intOf i).toNat)
        case atStart => exact ⟨p, Nat.le_refl _, hp, rfl, HI.out⟩
        case round =>
          obtain ⟨q, hq, hqn, rfl, hQ⟩ := hrel
          by_cases hgo : ∃ d, s.data.toList[q]? = some d ∧ d ≠ 10
          · obtain ⟨d, hd, hd10⟩ := hgo
            have hqlt : q < s.size := by rw [HZ.out]; exact (List.getElem?_eq_some_iff.1 hd).1
            have hiq := run_idx hd
            have u10 : ((d.toNat : Int) != 10) = true := by
              have e := eqByte d 10 (by omega)
              simp only [Int.cast_ofNat_Int] at e
              rw [bne, e]; simpa using hd10
            have HE := Lib.hid (hQ.out.next hd hd10)
            have hq1 : (q : Int) < (s.size : Int) := by omega
            have hq0 : (0 : Int) ≤ (q : Int) := by omega
            clear hd hd10
            go_wp2_with fail
            go_round
            case rel => exact ⟨q + 1, by omega, by omega, by go_num, HE⟩
            case measure => simp [intOf]; omega
          · have hpq : p < q := by
              rcases Nat.lt_or_ge p q with h | h
              · exact h
              · exfalso
                obtain rfl : p = q := by omega
                exact hgo ⟨c, HC.out, HC10.out⟩
            have HG := Lib.hid hgo
            clear hgo
            rcases Nat.lt_or_ge q s.size with hqlt | hge
            · obtain ⟨d, hd⟩ : ∃ d, s.data.toList[q]? = some d := ⟨_, List.getElem?_eq_getElem (by rw [← HZ.out]; exact hqlt)⟩
              have hd10 : d = 10 := by
                rcases Decidable.em (d = 10) with h | h
                · exact h
                · exact absurd ⟨d, hd, h⟩ HG.out
              subst hd10
              have hiq := run_idx hd
              have HE := Lib.hid (hQ.out.nl hd)
              have hq1 : (q : Int) < (s.size : Int) := by omega
              have hq0 : (0 : Int) ≤ (q : Int) := by omega
              clear hd
              go_wp2_with fail
              go_roundw
              case rel => exact ⟨q, acc, rfl, by rw [← HZ.out]; omega, hacc, hown, hbel, HE.out⟩
              case measure => simp [intOf]; omega
            · have HE := Lib.hid (hQ.out.over (by rw [← HZ.out]; exact hge))
              have hq1 : ¬ (q : Int) < (s.size : Int) := by omega
              go_wp2_with fail
              go_roundw
              case rel => exact ⟨q, acc, rfl, by rw [← HZ.out]; omega, hacc, hown, hbel, HE.out⟩
              case measure => simp [intOf]; omega
      have t35 : ((c.toNat : Int) == 35) = false := by rw [e35]; simpa using c35
      have hnw : ¬ wsB c := by
        unfold wsB
        rintro (h | h | h | h | h)
        · exact c10 h
        · exact c32 h
        · exact c9 h
        · exact c13 h
        · exact c35 h
      have hT := fun w1 => rtoken_c (s.extract p s.size) w1 (by rw [Lib.size_eq, sub_extract, List.length_drop, ← HZ.out]; omega) (by rw [Lib.size_eq, sub_extract, List.length_drop, ← HZ.out]; omega)
      simp only [sub_extract] at hT
      obtain ⟨⟨t, m, ec⟩, hy⟩ : ∃ y, tokO (s.data.toList.drop p) = y := ⟨_, rfl⟩
      rw [hy] at hT
      obtain ⟨k1, k2, k3⟩ := HST.out.tok HC.out hnw hy
      have K1 := Lib.hid k1
      have K2 := Lib.hid k2
      have K3 := Lib.hid k3
      clear hy k1 k2 k3 e10 e32 e9 e13 e35 c32 c9 c13 c10 c35 cw hnw
      unfold TkPost at hT
      simp only at hT
      by_cases he : ec = 0
      · subst he
        by_cases h4 : acc.length = 4096
        · have t4 : ((acc.length : Int) == 4096) = true := by rw [beq_iff_eq]; omega
          have HR := Lib.hid (K2.out rfl h4)
          clear h4
          go_wp2_with (go_at_call 29; refine (hT _).mono ?_; rintro e w1 ⟨rfl, hb1⟩; have hz1 := hb1.size)
          refine bodyPost_ret (by simp [results, Tryd.results16, go_sem]; rfl) rfl ?_
          unfold KPost
          rw [HR.out]
          exact ⟨none, 0, rfl, World.ownsRow_nil _ _ _ _, by (repeat (first | (with_reducible exact Below.refl _ _) | (with_reducible assumption) | (with_reducible refine Below.drew ?_) | (with_reducible refine below_drewN ?_ _) | ((with_reducible refine Below.setCell ?_ ?_ _); rotate_left; (focus (first | (simp; done) | (simp; omega) | omega))) | ((with_reducible refine Below.alloc ?_ ?_ _); rotate_left; (focus (first | (simp; done) | (simp; omega) | omega))) | ((with_reducible apply below_step1); (focus (with_reducible assumption)))))⟩
        · have t4 : ((acc.length : Int) == 4096) = false := by rw [beq_eq_false_iff_ne]; omega
          obtain ⟨hS2, hm1, hm2⟩ := K3.out rfl h4
          rw [← HZ.out] at hm2
          have HS2 := Lib.hid hS2
          have h4' : acc.length < 4096 := by omega
          clear h4 hS2
          go_wp2_with (first
            | (go_at_call 29; refine (hT _).mono ?_; rintro e w1 ⟨rfl, hb1⟩; have hz1 := hb1.size; have own1 := own_below hown hb1)
            | (at_builtin; refine wpList_app (v := .slice A5 acc.length c5) rfl _ _ stK rfl rfl (own1.alloc _) rfl (by simp) rfl (by simp [Value.oneCell']) (by omega) (by simp; omega) ?_; intro v' w3 own3 hg3 hat3; have hz3 := hg3.size; simp at hz3))
          have hb3 := below_app ((below_step hb1 hbel (Nat.le_refl _)).alloc (by omega) _) (own1.alloc _) hg3 (Nat.le_refl _) (by simp; omega)
          go_roundw
          case rel =>
            refine ⟨p + m, acc ++ [{ t with pos := (p : Int) }], by go_num, by rw [← HZ.out]; omega, by simp; omega, ?_, hb3, HS2.out⟩
            rw [List.length_append, kcells_snoc]
            exact own3
          case measure => simp [intOf]; omega
      · have te : (ec != 0) = true := by rw [bne_iff_ne]; exact he
        have te2 : (ec == 0) = false := by rw [beq_eq_false_iff_ne]; exact he
        have HR := Lib.hid (K1.out he)
        clear he
        go_wp2_with (go_at_call 29; refine (hT _).mono ?_; rintro e w1 ⟨rfl, hb1⟩; have hz1 := hb1.size)
        refine bodyPost_ret (by simp [results, Tryd.results16, go_sem]; rfl) rfl ?_
        unfold KPost
        rw [HR.out]
        exact ⟨none, 0, rfl, World.ownsRow_nil _ _ _ _, by (repeat (first | (with_reducible exact Below.refl _ _) | (with_reducible assumption) | (with_reducible refine Below.drew ?_) | (with_reducible refine below_drewN ?_ _) | ((with_reducible refine Below.setCell ?_ ?_ _); rotate_left; (focus (first | (simp; done) | (simp; omega) | omega))) | ((with_reducible refine Below.alloc ?_ ?_ _); rotate_left; (focus (first | (simp; done) | (simp; omega) | omega))) | ((with_reducible apply below_step1); (focus (with_reducible assumption)))))⟩
    · have hp1 : ¬ (p : Int) < (s.size : Int) := by omega
      have HR := Lib.hid (HST.out.done (by rw [← HZ.out]; omega))
      go_wp2_with fail
      refine bodyPost_ret (by simp [results, Tryd.results16, go_sem]; rfl) rfl ?_
      unfold KPost
      rw [HR.out]
      exact ⟨A5, c5, rfl, hown, hbel⟩
end Go.Proofs.YtmbegmhgiekofaaDoor
