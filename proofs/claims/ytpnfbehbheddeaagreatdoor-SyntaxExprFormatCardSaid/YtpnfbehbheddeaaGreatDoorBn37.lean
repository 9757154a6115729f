/- The search for an earlier column with a name. At most 1000000 columns. The rules of owners: validOwners. At most 1000000 columns and owners. The rules of Joint and Duty: validRules. At most 1000000 owners. -/
import Derived.Test.YtpnfbehbheddeaaGreatDoorBn36
import Derived.Test.YtpnfbehbheddeaaGreatDoorBn32
namespace Go.Proofs.YtpnfbehbheddeaaGreatDoor
set_option maxRecDepth 100000
set_option maxHeartbeats 8000000
set_option linter.unusedVariables false
set_option linter.unusedSimpArgs false
open Go.RowKit
theorem same_c {w : World} {zc : Nat} (c : Col) (A : Option Addr) (n k : Nat) (s : Bs) (hc : w.cell? ⟨zc, 0, none⟩ = some (.string ⟨s.toArray⟩)) (hz : zc < w.heap.size) : Calls Tryz.prog 246 #[.agg (colC c (.slice A n k)), .pointer (some ⟨zc, 0, none⟩)] w fun e w' => e = .returned (.bool (c.name == s)) ∧ Below w.heap.size w w' := by
  have hz1 := heap_alloc_new w (.cells (colC c (.slice A n k)) 82)
  have hb : Below w.heap.size w (w.alloc (.cells (colC c (.slice A n k)) 82)) := by (exact belQ)
  have hc2 : (w.alloc (.cells (colC c (.slice A n k)) 82)).cell? ⟨zc, 0, none⟩ = some (.string ⟨s.toArray⟩) := ((bcell hb).1 zc 0 hz).trans hc
  unfold colC at hz1 hb hc2 ⊢
  go_enter Tryz.func246, Tryz.ntmps246
  go_wp2_with fail
  go_ret
  exact ⟨rfl, hb⟩
def hasName (X : List Co) (k : Nat) (s : Bs) : Bool := (X.take k).any fun x => x.1.name == s
theorem hasName_snoc {X : List Co} {i : Nat} {x : Co} {s : Bs} (h : X[i]? = some x) : hasName X (i + 1) s = (hasName X i s || x.1.name == s) := by
  unfold hasName
  rw [List.take_add_one, h, List.any_append]
  simp
theorem hasName_le {X : List Co} {i k : Nat} {s : Bs} (h : hasName X i s = true) (hk : i ≤ k) : hasName X k s = true := by
  unfold hasName at h ⊢
  rw [List.any_eq_true] at h ⊢
  obtain ⟨x, hx, e⟩ := h
  refine ⟨x, ?_, e⟩
  rw [show X.take i = (X.take k).take i by rw [List.take_take, Nat.min_eq_left hk]] at hx
  exact List.mem_of_mem_take hx
def IfPost (X : List Co) (k : Nat) (s : Bs) (l : List HA) (e : Ending) (w' : World) : Prop := ∃ r : Int, e = .returned (.int .i64 r) ∧ decide (0 ≤ r) = hasName X k s ∧ HS w' l
theorem indexF_s {w : World} {l : List HA} {zc kk k k' n0 k0 : Nat} {A A0 : Option Addr} {X : List Co} (c0 : Col) (hn : X.length ≤ 1000000) (hs : ∀ x ∈ X, ∃ A n c, x.2 = .slice A n c) (hk : k ≤ X.length) (H : HS w (boxA zc (colC c0 (.slice A0 n0 k0)) 82 :: rowA 82 7 (.slice A X.length kk) X.length (coC X) :: l)) :
    Calls Tryz.prog 268 #[.slice A k k', .func (.func 246) #[] #[.pointer (some ⟨zc, 0, none⟩)]] w (IfPost X k c0.name (boxA zc (colC c0 (.slice A0 n0 k0)) 82 :: rowA 82 7 (.slice A X.length kk) X.length (coC X) :: l)) := by
  have HSS := Lib.hid hs
  clear hs
  go_enter Tryz.func268, Tryz.ntmps268
  go_upto_region 2 with fail
  go_loopw [8] (fun v8 wr => ∃ i : Nat, v8 = .int .i64 (i : Int) ∧ i ≤ k ∧ Hid (hasName X i c0.name = false) ∧ HS wr (boxA zc (colC c0 (.slice A0 n0 k0)) 82 :: rowA 82 7 (.slice A X.length kk) X.length (coC X) :: l)) (fun v8 _ => k - (intOf v8).toNat)
  case atStart => exact ⟨0, rfl, by omega, rfl, H⟩
  case round =>
    obtain ⟨i, rfl, hi, HN, Hr⟩ := hrel
    clear H
    by_cases hlt : i < k
    · have h1 : (i : Int) < (k : Int) := by omega
      have h0 : (0 : Int) ≤ (i : Int) := by omega
      obtain ⟨⟨c, v⟩, hc⟩ : ∃ x, X[i]? = some x := ⟨_, List.getElem?_eq_getElem (by omega)⟩
      obtain ⟨Av, nv, cv, e⟩ := HSS.out _ (List.mem_of_getElem? hc)
      dsimp only at e
      subst e
      have hS := hasName_snoc (s := c0.name) hc
      rw [HN.out, Bool.false_or] at hS
      obtain ⟨gc, eA, hgc, hcc, -⟩ := Hr.rowAt (A := A) pkQ (fun e => by have := coC_at hc 0 _ rfl; rw [e] at this; cases this)
      subst eA
      have q0 := hcc _ _ (coC_at hc 0 _ rfl)
      have q1 := hcc _ _ (coC_at hc 1 _ rfl)
      have q2 := hcc _ _ (coC_at hc 2 _ rfl)
      have q3 := hcc _ _ (coC_at hc 3 _ rfl)
      have q4 := hcc _ _ (coC_at hc 4 _ rfl)
      have q5 := hcc _ _ (coC_at hc 5 _ rfl)
      have q6 := hcc _ _ (coC_at hc 6 _ rfl)
      rw [Nat.add_zero] at q0
      obtain ⟨dB, dL, hcB⟩ := HS.get (z := zc) Hr; obtain ⟨d0, df0⟩ := hcB 0; clear hcB; unfold colC at d0
      have hF := same_c c Av nv cv c0.name d0 dL
      unfold colC at hF
      clear hcc hc HN
      cases hb : (c.name == c0.name) with
      | true =>
        rw [hb] at hF hS
        have HT := Lib.hid (hasName_le hS (show i + 1 ≤ k by omega))
        clear hS hb
        go_wp2_with (go_at_call 246; (with_reducible refine hF.mono ?_); rintro e w2 ⟨rfl, hb2⟩; have H2 := Hr.below hb2)
        go_ret
        exact ⟨(i : Int), rfl, by rw [HT.out]; simp, H2⟩
      | false =>
        rw [hb] at hF hS
        have HT := Lib.hid hS
        clear hS hb
        go_wp2_with (go_at_call 246; (with_reducible refine hF.mono ?_); rintro e w2 ⟨rfl, hb2⟩; have H2 := Hr.below hb2)
        go_roundw
        case rel => exact ⟨i + 1, by go_num, by omega, HT, H2⟩
        case measure => simp [intOf]; omega
    · obtain rfl : i = k := by omega
      have h1 : ¬ (i : Int) < (i : Int) := by omega
      go_wp2_with fail
      go_ret
      exact ⟨-1, rfl, by rw [HN.out]; decide, Hr⟩
def CfPost (X : List Co) (k : Nat) (s : Bs) (l : List HA) (e : Ending) (w' : World) : Prop := e = .returned (.bool (hasName X k s)) ∧ HS w' l
theorem containsF_s {w : World} {l : List HA} {zc kk k k' n0 k0 : Nat} {A A0 : Option Addr} {X : List Co} (c0 : Col) (hn : X.length ≤ 1000000) (hs : ∀ x ∈ X, ∃ A n c, x.2 = .slice A n c) (hk : k ≤ X.length) (H : HS w (boxA zc (colC c0 (.slice A0 n0 k0)) 82 :: rowA 82 7 (.slice A X.length kk) X.length (coC X) :: l)) :
    Calls Tryz.prog 245 #[.slice A k k', .func (.func 246) #[] #[.pointer (some ⟨zc, 0, none⟩)]] w (CfPost X k c0.name (boxA zc (colC c0 (.slice A0 n0 k0)) 82 :: rowA 82 7 (.slice A X.length kk) X.length (coC X) :: l)) := by
  have hI := indexF_s (k' := k') c0 hn hs hk H
  unfold IfPost at hI
  clear H hs
  go_enter Tryz.func245, Tryz.ntmps245
  go_wp2_with (go_at_call 268; (with_reducible refine hI.mono ?_); rintro e w2 ⟨r, rfl, hr, H2⟩; have HR := Lib.hid hr; clear hr)
  go_ret
  exact ⟨ret_bool HR.out, H2⟩
theorem flat_ints (l : List Int) : l.flatMap (fun z => [Value.int .i64 z]) = l.map (Value.int .i64) := by
  induction l with
  | nil => rfl
  | cons a l ih => rw [List.flatMap_cons, ih]; rfl
theorem HS.intsAt {w : World} {l l' : List HA} {X : List Co} (H : HS w l) (hp : Pick l (allA (X.map coA)) l') {x : Co} (hx : x ∈ X) : ∃ A c, x.2 = .slice A x.1.owners.length c ∧ RowZ w w.heap.size A x.1.owners.length x.1.owners := by
  obtain ⟨S, hS, -⟩ := H.mem (m := X.map coA) hp (List.mem_map.2 ⟨x, hx, rfl⟩)
  obtain ⟨A, c, e, -, -⟩ := own_slice hS
  refine ⟨A, c, e, ?_⟩
  rw [e] at hS
  exact RowOf.of_own (by unfold intV at hS; rw [flat_ints]; exact hS) rfl
def VoPost (r : Bool) (l : List HA) (e : Ending) (w' : World) : Prop := e = .returned (.bool r) ∧ HS w' l
theorem validOwners_s {w : World} {l l' l'' : List HA} {kk ko : Nat} {A Ao : Option Addr} {X : List Co} (t : Tab) (hX : X.map Prod.fst = t.cols) {x : Co} (hx : x ∈ X) (hv : x.2 = .slice Ao x.1.owners.length ko) (hn : X.length ≤ 1000000) (hs : ∀ x ∈ X, ∃ A n c, x.2 = .slice A n c) (H : HS w l) (hp : Pick l (rowA 82 7 (.slice A X.length kk) X.length (coC X)) l') (hq : Pick l (allA (X.map coA)) l'') (hol : x.1.owners.length ≤ 1000000) :
    Calls Tryz.prog 248 #[.agg #[.string ⟨t.name.toArray⟩, .slice A X.length kk, .int .i64 t.erase, .int .i64 t.retain], .slice Ao x.1.owners.length ko] w (VoPost (ownersC t (-1) x.1.owners) l) := by
  obtain ⟨R, hR⟩ : ∃ R, ownersC t (-1) x.1.owners = R := ⟨_, rfl⟩
  rw [hR]
  have HR := Lib.hid hR
  have HSS := Lib.hid hs
  have HX := Lib.hid hX
  have HV := Lib.hid hv
  have HL := Lib.hid (show X.length = t.cols.length by rw [← hX, List.length_map])
  have H1 := H.alloc #[.string ⟨t.name.toArray⟩, .slice A X.length kk, .int .i64 t.erase, .int .i64 t.retain] 79
  clear hs hX hR hv H
  generalize ho : x.1.owners = zs at HR HV hol ⊢
  have HO := Lib.hid ho
  clear ho
  go_enter Tryz.func248, Tryz.ntmps248
  go_upto_region 3 with fail
  generalize w.heap.size = zt at H1 ⊢
  go_loopw [5, 11] (fun v5 v11 wr => ∃ (i : Nat) (b : Int), v11 = .int .i64 (i : Int) ∧ v5 = .int .i64 b ∧ -1 ≤ b ∧ i ≤ zs.length ∧ Hid (ownersC t b (zs.drop i) = R) ∧ HS wr (boxA zt #[.string ⟨t.name.toArray⟩, .slice A X.length kk, .int .i64 t.erase, .int .i64 t.retain] 79 :: l)) (fun _ v11 _ => zs.length - (intOf v11).toNat)
  case atStart => exact ⟨0, -1, rfl, rfl, by omega, by omega, HR, H1⟩
  case round =>
    obtain ⟨i, b, rfl, rfl, hb, hi, HC, Hr⟩ := hrel
    clear H1
    by_cases hlt : i < zs.length
    · have h1 : (i : Int) < (zs.length : Int) := by omega
      have h0 : (0 : Int) ≤ (i : Int) := by omega
      obtain ⟨A2, c2, e2, hRow⟩ := Hr.intsAt (.there hq) hx
      rw [HO.out] at e2 hRow
      rw [HV.out] at e2
      injection e2 with e2 _ _
      subst e2
      obtain ⟨b0, off, o, rfl, hb0, hz, hcell⟩ := hRow.at1 hlt
      have hC := HC.out
      rw [List.drop_eq_getElem_cons hlt, (List.getElem?_eq_some_iff.1 hz).2, ownersC] at hC
      clear hRow hz HC
      obtain ⟨dB, dL, hcB⟩ := HS.get (z := zt) Hr; obtain ⟨d1, df1⟩ := hcB 1; clear hcB
      by_cases hbo : b < o
      · have t1 : ¬ o ≤ b := by omega
        have ho0 : (0 : Int) ≤ o := by omega
        by_cases hlen : o < (X.length : Int)
        · have hl2 : o.toNat < X.length := by omega
          obtain ⟨⟨c, v⟩, hc⟩ : ∃ y, X[o.toNat]? = some y := ⟨_, List.getElem?_eq_getElem hl2⟩
          obtain ⟨Av, nv, cv, e⟩ := HSS.out _ (List.mem_of_getElem? hc)
          dsimp only at e
          subst e
          have hcc : t.cols[o.toNat]? = some c := by rw [← HX.out, List.getElem?_map, hc]; rfl
          rw [hcc, decide_eq_true hbo] at hC
          dsimp only at hC
          rw [Bool.true_and] at hC
          obtain ⟨gc, eA, hgc, hcl, -⟩ := Hr.rowAt (A := A) (.there hp) (fun e => by have := coC_at hc 0 _ rfl; rw [e] at this; cases this)
          subst eA
          have q0 := hcl _ _ (coC_at hc 0 _ rfl)
          have q1 := hcl _ _ (coC_at hc 1 _ rfl)
          have q2 := hcl _ _ (coC_at hc 2 _ rfl)
          have q3 := hcl _ _ (coC_at hc 3 _ rfl)
          have q4 := hcl _ _ (coC_at hc 4 _ rfl)
          have q5 := hcl _ _ (coC_at hc 5 _ rfl)
          have q6 := hcl _ _ (coC_at hc 6 _ rfl)
          rw [Nat.add_zero] at q0
          obtain ⟨m, rfl⟩ : ∃ m : Nat, o = (m : Int) := ⟨o.toNat, by omega⟩
          rw [Int.toNat_natCast] at q0 q1 q2 q3 q4 q5 q6
          clear hcl hcc hc hl2
          go_upto_region 8 with fail
          obtain ⟨z, w1, ez, ew, H2⟩ := Hr.alloc_ex (colC c (.slice Av nv cv)) 82
          unfold colC at ew
          rw [ew, ez]
          clear ez ew q0 q1 q2 q3 q4 q5 q6
          obtain ⟨yB, yL, hcB⟩ := HS.get (z := z) H2; obtain ⟨y2, yf2⟩ := hcB 2; obtain ⟨y3, yf3⟩ := hcB 3; clear hcB; unfold colC at y2 y3
          by_cases hn1 : c.ns = []
          · have e1 : (c.ns == []) = true := by rw [hn1]; rfl
            by_cases hn2 : c.rf = []
            · have e2 : (c.rf == []) = true := by rw [hn2]; rfl
              rw [show decide (c.ns ≠ [] ∨ c.rf ≠ []) = false by simp [hn1, hn2], Bool.false_and] at hC
              subst hC
              rw [hn1] at y2
              rw [hn2] at y3
              clear hn1 hn2
              go_wp2_with fail
              go_ret
              exact ⟨rfl, H2.tail.tail⟩
            · have e2 : (c.rf == []) = false := by simpa using hn2
              rw [show decide (c.ns ≠ [] ∨ c.rf ≠ []) = true by simp [hn2], Bool.true_and] at hC
              have HC := Lib.hid hC
              rw [hn1] at y2
              clear hn1 hn2 hC
              go_wp2_with fail
              go_roundw
              case rel => exact ⟨i + 1, m, by go_num, rfl, by omega, by omega, HC, H2.tail⟩
              case measure => simp [intOf]; omega
          · have e1 : (c.ns == []) = false := by simpa using hn1
            rw [show decide (c.ns ≠ [] ∨ c.rf ≠ []) = true by simp [hn1], Bool.true_and] at hC
            have HC := Lib.hid hC
            clear hn1 hC
            go_wp2_with fail
            go_roundw
            case rel => exact ⟨i + 1, m, by go_num, rfl, by omega, by omega, HC, H2.tail⟩
            case measure => simp [intOf]; omega
        · have t2 : (X.length : Int) ≤ o := by omega
          have hcc : t.cols[o.toNat]? = none := by rw [List.getElem?_eq_none_iff]; have := HL.out; omega
          rw [hcc, Bool.and_false] at hC
          subst hC
          clear hlen hcc
          go_wp2_with fail
          go_ret
          exact ⟨rfl, Hr.tail⟩
      · have t1 : o ≤ b := by omega
        rw [decide_eq_false hbo, Bool.false_and] at hC
        subst hC
        clear hbo
        go_wp2_with fail
        go_ret
        exact ⟨rfl, Hr.tail⟩
    · obtain rfl : i = zs.length := by omega
      have h1 : ¬ (zs.length : Int) < (zs.length : Int) := by omega
      have hC := HC.out
      rw [List.drop_length, ownersC] at hC
      subst hC
      clear HC HR
      go_wp2_with fail
      go_ret
      exact ⟨rfl, Hr.tail⟩
def rulesN (wi : Bool) (joint duty retain : Int) (m : Nat) : Bool := if joint ≠ 0 ∧ (joint ≠ 1 ∨ m = 0) then false else if wi = false then false else if duty ≠ 0 ∧ m = 0 then false else decide (retain = 0 ∨ duty ≤ retain)
theorem rules_n (t : Tab) (c : Col) : rulesC t c = rulesN (withinI c.duty 0 1048576) c.joint c.duty t.retain c.owners.length := by
  unfold rulesC rulesN
  simp only [List.length_eq_zero_iff]
theorem validRules_n {w : World} {A Ac : Option Addr} {n kk k m : Nat} (joint duty retain erase ty : Int) (tn cn ns rf : Bs) : Calls Tryz.prog 249 #[.agg #[.string ⟨tn.toArray⟩, .slice A n kk, .int .i64 erase, .int .i64 retain], .agg #[.string ⟨cn.toArray⟩, .int .i64 ty, .string ⟨ns.toArray⟩, .string ⟨rf.toArray⟩, .slice Ac m k, .int .i64 joint, .int .i64 duty]] w fun e w' => e = .returned (.bool (rulesN (withinI duty 0 1048576) joint duty retain m)) ∧ Below w.heap.size w w' := by
  obtain ⟨R, hR⟩ : ∃ R, rulesN (withinI duty 0 1048576) joint duty retain m = R := ⟨_, rfl⟩
  rw [hR]
  unfold rulesN at hR
  have hW := fun w1 => within_c duty 0 1048576 w1
  have H0 := HS.start w
  have H1 := (H0.alloc #[.string ⟨tn.toArray⟩, .slice A n kk, .int .i64 erase, .int .i64 retain] 79).alloc #[.string ⟨cn.toArray⟩, .int .i64 ty, .string ⟨ns.toArray⟩, .string ⟨rf.toArray⟩, .slice Ac m k, .int .i64 joint, .int .i64 duty] 82
  have hB := H1.old pkQ
  clear H0 H1
  generalize withinI duty 0 1048576 = wi at hW hR
  by_cases ho : m = 0
  · subst ho
    by_cases j0 : joint = 0
    · subst j0
      cases wi with
      | false =>
        rw [show R = false from by rw [← hR]; simp]
        clear hR
        go_enter Tryz.func249, Tryz.ntmps249
        go_wp2_with (go_at_call 202; (with_reducible refine (hW _).mono ?_); rintro e w2 ⟨rfl, rfl⟩)
        go_ret
        first | exact ⟨rfl, hB⟩ | exact ⟨ret_bool (by simp; omega), hB⟩
      | true =>
        by_cases d0 : duty = 0
        · subst d0
          by_cases r0 : retain = 0
          · subst r0
            rw [show R = true from by rw [← hR]; simp]
            clear hR
            go_enter Tryz.func249, Tryz.ntmps249
            go_wp2_with (go_at_call 202; (with_reducible refine (hW _).mono ?_); rintro e w2 ⟨rfl, rfl⟩)
            go_ret
            first | exact ⟨rfl, hB⟩ | exact ⟨ret_bool (by simp; omega), hB⟩
          ·
            have r0a : (retain == 0) = false := by simpa using r0
            have r0b : (retain != 0) = true := by simpa using r0
            by_cases r1 : 0 ≤ retain
            ·
              rw [show R = true from by rw [← hR]; simp [r0, r1]]
              clear hR
              go_enter Tryz.func249, Tryz.ntmps249
              go_wp2_with (go_at_call 202; (with_reducible refine (hW _).mono ?_); rintro e w2 ⟨rfl, rfl⟩)
              go_ret
              first | exact ⟨rfl, hB⟩ | exact ⟨ret_bool (by simp; omega), hB⟩
            ·
              rw [show R = false from by rw [← hR]; simp [r0, r1]]
              clear hR
              go_enter Tryz.func249, Tryz.ntmps249
              go_wp2_with (go_at_call 202; (with_reducible refine (hW _).mono ?_); rintro e w2 ⟨rfl, rfl⟩)
              go_ret
              first | exact ⟨rfl, hB⟩ | exact ⟨ret_bool (by simp; omega), hB⟩
        ·
          have d0a : (duty == 0) = false := by simpa using d0
          have d0b : (duty != 0) = true := by simpa using d0
          rw [show R = false from by rw [← hR]; simp [d0]]
          clear hR
          go_enter Tryz.func249, Tryz.ntmps249
          go_wp2_with (go_at_call 202; (with_reducible refine (hW _).mono ?_); rintro e w2 ⟨rfl, rfl⟩)
          go_ret
          first | exact ⟨rfl, hB⟩ | exact ⟨ret_bool (by simp; omega), hB⟩
    ·
      have j0a : (joint == 0) = false := by simpa using j0
      have j0b : (joint != 0) = true := by simpa using j0
      by_cases j1 : joint = 1
      · subst j1
        rw [show R = false from by rw [← hR]; simp]
        clear hR
        go_enter Tryz.func249, Tryz.ntmps249
        go_wp2_with (go_at_call 202; (with_reducible refine (hW _).mono ?_); rintro e w2 ⟨rfl, rfl⟩)
        go_ret
        first | exact ⟨rfl, hB⟩ | exact ⟨ret_bool (by simp; omega), hB⟩
      ·
        have j1a : (joint == 1) = false := by simpa using j1
        have j1b : (joint != 1) = true := by simpa using j1
        rw [show R = false from by rw [← hR]; simp [j0, j1]]
        clear hR
        go_enter Tryz.func249, Tryz.ntmps249
        go_wp2_with (go_at_call 202; (with_reducible refine (hW _).mono ?_); rintro e w2 ⟨rfl, rfl⟩)
        go_ret
        first | exact ⟨rfl, hB⟩ | exact ⟨ret_bool (by simp; omega), hB⟩
  · have l0 : 0 < m := by omega
    by_cases j0 : joint = 0
    · subst j0
      cases wi with
      | false =>
        rw [show R = false from by rw [← hR]; simp [ho]]
        clear hR
        go_enter Tryz.func249, Tryz.ntmps249
        go_wp2_with (go_at_call 202; (with_reducible refine (hW _).mono ?_); rintro e w2 ⟨rfl, rfl⟩)
        go_ret
        first | exact ⟨rfl, hB⟩ | exact ⟨ret_bool (by simp; omega), hB⟩
      | true =>
        by_cases d0 : duty = 0
        · subst d0
          by_cases r0 : retain = 0
          · subst r0
            rw [show R = true from by rw [← hR]; simp [ho]]
            clear hR
            go_enter Tryz.func249, Tryz.ntmps249
            go_wp2_with (go_at_call 202; (with_reducible refine (hW _).mono ?_); rintro e w2 ⟨rfl, rfl⟩)
            go_ret
            first | exact ⟨rfl, hB⟩ | exact ⟨ret_bool (by simp; omega), hB⟩
          ·
            have r0a : (retain == 0) = false := by simpa using r0
            have r0b : (retain != 0) = true := by simpa using r0
            by_cases r1 : 0 ≤ retain
            ·
              rw [show R = true from by rw [← hR]; simp [ho, r0, r1]]
              clear hR
              go_enter Tryz.func249, Tryz.ntmps249
              go_wp2_with (go_at_call 202; (with_reducible refine (hW _).mono ?_); rintro e w2 ⟨rfl, rfl⟩)
              go_ret
              first | exact ⟨rfl, hB⟩ | exact ⟨ret_bool (by simp; omega), hB⟩
            ·
              rw [show R = false from by rw [← hR]; simp [ho, r0, r1]]
              clear hR
              go_enter Tryz.func249, Tryz.ntmps249
              go_wp2_with (go_at_call 202; (with_reducible refine (hW _).mono ?_); rintro e w2 ⟨rfl, rfl⟩)
              go_ret
              first | exact ⟨rfl, hB⟩ | exact ⟨ret_bool (by simp; omega), hB⟩
        ·
          have d0a : (duty == 0) = false := by simpa using d0
          have d0b : (duty != 0) = true := by simpa using d0
          by_cases r0 : retain = 0
          · subst r0
            rw [show R = true from by rw [← hR]; simp [ho, d0]]
            clear hR
            go_enter Tryz.func249, Tryz.ntmps249
            go_wp2_with (go_at_call 202; (with_reducible refine (hW _).mono ?_); rintro e w2 ⟨rfl, rfl⟩)
            go_ret
            first | exact ⟨rfl, hB⟩ | exact ⟨ret_bool (by simp; omega), hB⟩
          ·
            have r0a : (retain == 0) = false := by simpa using r0
            have r0b : (retain != 0) = true := by simpa using r0
            by_cases r1 : duty ≤ retain
            ·
              rw [show R = true from by rw [← hR]; simp [ho, d0, r0, r1]]
              clear hR
              go_enter Tryz.func249, Tryz.ntmps249
              go_wp2_with (go_at_call 202; (with_reducible refine (hW _).mono ?_); rintro e w2 ⟨rfl, rfl⟩)
              go_ret
              first | exact ⟨rfl, hB⟩ | exact ⟨ret_bool (by simp; omega), hB⟩
            ·
              rw [show R = false from by rw [← hR]; simp [ho, d0, r0, r1]]
              clear hR
              go_enter Tryz.func249, Tryz.ntmps249
              go_wp2_with (go_at_call 202; (with_reducible refine (hW _).mono ?_); rintro e w2 ⟨rfl, rfl⟩)
              go_ret
              first | exact ⟨rfl, hB⟩ | exact ⟨ret_bool (by simp; omega), hB⟩
    ·
      have j0a : (joint == 0) = false := by simpa using j0
      have j0b : (joint != 0) = true := by simpa using j0
      by_cases j1 : joint = 1
      · subst j1
        cases wi with
        | false =>
          rw [show R = false from by rw [← hR]; simp [ho]]
          clear hR
          go_enter Tryz.func249, Tryz.ntmps249
          go_wp2_with (go_at_call 202; (with_reducible refine (hW _).mono ?_); rintro e w2 ⟨rfl, rfl⟩)
          go_ret
          first | exact ⟨rfl, hB⟩ | exact ⟨ret_bool (by simp; omega), hB⟩
        | true =>
          by_cases d0 : duty = 0
          · subst d0
            by_cases r0 : retain = 0
            · subst r0
              rw [show R = true from by rw [← hR]; simp [ho]]
              clear hR
              go_enter Tryz.func249, Tryz.ntmps249
              go_wp2_with (go_at_call 202; (with_reducible refine (hW _).mono ?_); rintro e w2 ⟨rfl, rfl⟩)
              go_ret
              first | exact ⟨rfl, hB⟩ | exact ⟨ret_bool (by simp; omega), hB⟩
            ·
              have r0a : (retain == 0) = false := by simpa using r0
              have r0b : (retain != 0) = true := by simpa using r0
              by_cases r1 : 0 ≤ retain
              ·
                rw [show R = true from by rw [← hR]; simp [ho, r0, r1]]
                clear hR
                go_enter Tryz.func249, Tryz.ntmps249
                go_wp2_with (go_at_call 202; (with_reducible refine (hW _).mono ?_); rintro e w2 ⟨rfl, rfl⟩)
                go_ret
                first | exact ⟨rfl, hB⟩ | exact ⟨ret_bool (by simp; omega), hB⟩
              ·
                rw [show R = false from by rw [← hR]; simp [ho, r0, r1]]
                clear hR
                go_enter Tryz.func249, Tryz.ntmps249
                go_wp2_with (go_at_call 202; (with_reducible refine (hW _).mono ?_); rintro e w2 ⟨rfl, rfl⟩)
                go_ret
                first | exact ⟨rfl, hB⟩ | exact ⟨ret_bool (by simp; omega), hB⟩
          ·
            have d0a : (duty == 0) = false := by simpa using d0
            have d0b : (duty != 0) = true := by simpa using d0
            by_cases r0 : retain = 0
            · subst r0
              rw [show R = true from by rw [← hR]; simp [ho, d0]]
              clear hR
              go_enter Tryz.func249, Tryz.ntmps249
              go_wp2_with (go_at_call 202; (with_reducible refine (hW _).mono ?_); rintro e w2 ⟨rfl, rfl⟩)
              go_ret
              first | exact ⟨rfl, hB⟩ | exact ⟨ret_bool (by simp; omega), hB⟩
            ·
              have r0a : (retain == 0) = false := by simpa using r0
              have r0b : (retain != 0) = true := by simpa using r0
              by_cases r1 : duty ≤ retain
              ·
                rw [show R = true from by rw [← hR]; simp [ho, d0, r0, r1]]
                clear hR
                go_enter Tryz.func249, Tryz.ntmps249
                go_wp2_with (go_at_call 202; (with_reducible refine (hW _).mono ?_); rintro e w2 ⟨rfl, rfl⟩)
                go_ret
                first | exact ⟨rfl, hB⟩ | exact ⟨ret_bool (by simp; omega), hB⟩
              ·
                rw [show R = false from by rw [← hR]; simp [ho, d0, r0, r1]]
                clear hR
                go_enter Tryz.func249, Tryz.ntmps249
                go_wp2_with (go_at_call 202; (with_reducible refine (hW _).mono ?_); rintro e w2 ⟨rfl, rfl⟩)
                go_ret
                first | exact ⟨rfl, hB⟩ | exact ⟨ret_bool (by simp; omega), hB⟩
      ·
        have j1a : (joint == 1) = false := by simpa using j1
        have j1b : (joint != 1) = true := by simpa using j1
        rw [show R = false from by rw [← hR]; simp [j0, j1]]
        clear hR
        go_enter Tryz.func249, Tryz.ntmps249
        go_wp2_with (go_at_call 202; (with_reducible refine (hW _).mono ?_); rintro e w2 ⟨rfl, rfl⟩)
        go_ret
        first | exact ⟨rfl, hB⟩ | exact ⟨ret_bool (by simp; omega), hB⟩
end Go.Proofs.YtpnfbehbheddeaaGreatDoor
