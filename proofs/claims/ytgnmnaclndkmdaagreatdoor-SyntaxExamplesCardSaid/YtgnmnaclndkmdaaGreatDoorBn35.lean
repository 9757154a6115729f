/- Small functions of the check of catalogues: within, isType, find, declare, add. Names of at most 2^40 bytes, at most 1000000 of them. The names and types of the columns of a table, collected: collect and its functions. At most 1000000 columns. add of a checker, and the search for an earlier column with a name. At most 1000000 columns and stores. The search for an earlier column with a name. At most 1000000 columns. -/
import Derived.Test.YtgnmnaclndkmdaaGreatDoorBn34
import Derived.Test.YtgnmnaclndkmdaaGreatDoorBn12
import Derived.Test.YtgnmnaclndkmdaaGreatDoorBn32
import Derived.Test.YtgnmnaclndkmdaaGreatDoorBn33
namespace Go.Proofs.YtgnmnaclndkmdaaGreatDoor
open Go.RowKit Go.Maps

theorem within_c (n a b : Int) (w : World) : Calls Tryz.prog 158 #[.int .i64 n, .int .i64 a, .int .i64 b] w fun e w' => e = .returned (.bool (withinI n a b)) ∧ w = w' := by
  by_cases h1 : a ≤ n
  · by_cases h2 : n ≤ b
    · have HR := Lib.hid (show withinI n a b = true by simp [withinI, h1, h2])
      go_enter Tryz.func158, Tryz.ntmps158
      go_wp2_with fail
      go_ret
      exact ⟨ret_bool HR.out.symm, rfl⟩
    · have HR := Lib.hid (show withinI n a b = false by simp [withinI, h2])
      go_enter Tryz.func158, Tryz.ntmps158
      go_wp2_with fail
      go_ret
      exact ⟨ret_bool HR.out.symm, rfl⟩
  · have HR := Lib.hid (show withinI n a b = false by simp [withinI, h1])
    go_enter Tryz.func158, Tryz.ntmps158
    go_wp2_with fail
    go_ret
    exact ⟨ret_bool HR.out.symm, rfl⟩
def isTypeB (k : Int) : Bool := k == 1 || k == 2
theorem isType_c (k : Int) (w : World) : Calls Tryz.prog 190 #[.int .i64 k] w fun e w' => e = .returned (.bool (isTypeB k)) ∧ w = w' := by
  by_cases h1 : k = 1
  · subst h1
    go_enter Tryz.func190, Tryz.ntmps190
    go_wp2_with fail
    go_ret
    exact ⟨rfl, rfl⟩
  · have t1 : (k == 1) = false := by simpa using h1
    have HR := Lib.hid (show isTypeB k = (k == 2) by unfold isTypeB; rw [t1]; rfl)
    clear h1
    go_enter Tryz.func190, Tryz.ntmps190
    go_wp2_with fail
    go_ret
    exact ⟨ret_bool HR.out.symm, rfl⟩
/-- A checker: its catalogue's slices, its maps, its stores. -/
def ckC (c : Fin 8 → Value) (zb zi : Nat) (st : Value) : Array Value := #[c 0, c 1, c 2, c 3, c 4, c 5, c 6, c 7, .map (some zb), .map (some zi), st]
section
variable {w : World} {l l' : List HA} {zk zb zi n : Nat} {c : Fin 8 → Value} {st : Value} {q : List Bs} {g : Bs → Option Nat}
set_option maxRecDepth 100000 in
theorem find_k (s : Bs) (hs : s.length ≤ 1000000) (H : HS w (boxA zk (ckC c zb zi st) 206 :: mapI zi n g :: l)) :
    Calls Tryz.prog 165 #[.pointer (some ⟨zk, 0, none⟩), .string ⟨s.toArray⟩] w fun e w' => e = .returned (.int .i64 (match g s with | some k => (k : Int) | none => -1)) ∧ w' = w := by
  have hml : s.length ≤ maxLen := by unfold maxLen; omega
  have hlk := H.mapLookI (z := zi) (n := n) (g := g) (by with_reducible repeat constructor) hml
  have dB := HS.box (z := zk) H (by with_reducible repeat constructor); have dL := Box.lt dB; obtain ⟨hcB, hfB⟩ := Box.cells dB; have d9 := hcB 9; have df9 := hfB 9; clear hcB hfB; unfold ckC at d9
  cases hg : g s with
  | none =>
    rw [hg] at hlk
    clear hg
    go_enter Tryz.func165, Tryz.ntmps165
    go_wp2_with fail
    go_ret
    exact ⟨rfl, rfl⟩
  | some k =>
    rw [hg] at hlk
    clear hg
    go_enter Tryz.func165, Tryz.ntmps165
    go_wp2_with fail
    go_ret
    exact ⟨rfl, rfl⟩
set_option maxRecDepth 100000 in
set_option maxHeartbeats 4000000 in
theorem declare_s (s : Bs) (hs : s.length ≤ 1000000) (hq : q.length ≤ 1000000) (H : HS w (boxA zk (ckC c zb zi st) 206 :: mapB zb q :: l)) :
    Calls Tryz.prog 157 #[.pointer (some ⟨zk, 0, none⟩), .string ⟨s.toArray⟩] w fun e w' => e = .returned (.int .i64 (declC ⟨q, []⟩ s)) ∧ HS w' (boxA zk (ckC c zb zi st) 206 :: mapB zb (if declC ⟨q, []⟩ s = 0 then q ++ [s] else q) :: l) := by
  have hN := xisName ⟨s.toArray⟩ w (by show s.toArray.size ≤ _; simp; omega)
  have hml : s.length ≤ maxLen := by unfold maxLen; omega
  have hlk := H.mapLook (z := zb) (q := q) (by with_reducible repeat constructor) hml
  obtain ⟨w2, hup, H2⟩ := H.mapPut (z := zb) (q := q) (by with_reducible repeat constructor) hml (by unfold maxLen; omega)
  have dB := HS.box (z := zk) H (by with_reducible repeat constructor); have dL := Box.lt dB; obtain ⟨hcB, hfB⟩ := Box.cells dB; have d8 := hcB 8; have df8 := hfB 8; clear hcB hfB; unfold ckC at d8
  unfold declC
  dsimp only at hN ⊢
  cases hn : isNameB s with
  | false =>
    rw [hn] at hN
    clear hlk hup H2
    go_enter Tryz.func157, Tryz.ntmps157
    go_wp2_with (go_at_call 18; refine hN.mono ?_; rintro e w1 ⟨rfl, rfl⟩)
    go_ret
    exact ⟨rfl, H⟩
  | true =>
    rw [hn] at hN
    cases hc : q.contains s with
    | true =>
      rw [hc] at hlk
      clear hup H2
      go_enter Tryz.func157, Tryz.ntmps157
      go_wp2_with (go_at_call 18; refine hN.mono ?_; rintro e w1 ⟨rfl, rfl⟩)
      go_ret
      exact ⟨rfl, H⟩
    | false =>
      rw [hc] at hlk
      go_enter Tryz.func157, Tryz.ntmps157
      go_wp2_with (go_at_call 18; refine hN.mono ?_; rintro e w1 ⟨rfl, rfl⟩)
      go_ret
      exact ⟨rfl, H2.sub (by with_reducible repeat constructor)⟩
end
end Go.Proofs.YtgnmnaclndkmdaaGreatDoor
namespace Go.Proofs.YtgnmnaclndkmdaaGreatDoor
open Go.RowKit

theorem tname_c (c : Col) (v : Value) (A : Option Addr) (n k : Nat) (hv : v = .slice A n k) (w : World) : Calls Tryz.prog 162 #[.agg (colC c v)] w fun e w' => e = .returned (.string ⟨c.name.toArray⟩) ∧ Below w.heap.size w w' := by
  subst hv
  unfold colC
  have hz := heap_alloc_new w (.cells #[.string ⟨c.name.toArray⟩, .int .i64 c.ty, .string ⟨c.ns.toArray⟩, .string ⟨c.rf.toArray⟩, .slice A n k, .int .i64 c.joint, .int .i64 c.duty] 80)
  have hb : Below w.heap.size w (w.alloc (.cells #[.string ⟨c.name.toArray⟩, .int .i64 c.ty, .string ⟨c.ns.toArray⟩, .string ⟨c.rf.toArray⟩, .slice A n k, .int .i64 c.joint, .int .i64 c.duty] 80)) := by (repeat (first | (with_reducible exact Below.refl _ _) | (with_reducible assumption) | (with_reducible refine Below.drew ?_) | (with_reducible refine below_drewN ?_ _) | ((with_reducible refine Below.setCell ?_ ?_ _); rotate_left; (focus (first | (simp; done) | (simp; omega) | omega))) | ((with_reducible refine Below.alloc ?_ ?_ _); rotate_left; (focus (first | (simp; done) | (simp; omega) | omega))) | ((with_reducible apply below_step1); (focus (with_reducible assumption)))))
  go_enter Tryz.func162, Tryz.ntmps162
  go_wp2_with fail
  go_ret
  exact ⟨rfl, hb⟩
theorem ttype_c (c : Col) (v : Value) (A : Option Addr) (n k : Nat) (hv : v = .slice A n k) (w : World) : Calls Tryz.prog 164 #[.agg (colC c v)] w fun e w' => e = .returned (.int .i64 c.ty) ∧ Below w.heap.size w w' := by
  subst hv
  unfold colC
  have hz := heap_alloc_new w (.cells #[.string ⟨c.name.toArray⟩, .int .i64 c.ty, .string ⟨c.ns.toArray⟩, .string ⟨c.rf.toArray⟩, .slice A n k, .int .i64 c.joint, .int .i64 c.duty] 80)
  have hb : Below w.heap.size w (w.alloc (.cells #[.string ⟨c.name.toArray⟩, .int .i64 c.ty, .string ⟨c.ns.toArray⟩, .string ⟨c.rf.toArray⟩, .slice A n k, .int .i64 c.joint, .int .i64 c.duty] 80)) := by (repeat (first | (with_reducible exact Below.refl _ _) | (with_reducible assumption) | (with_reducible refine Below.drew ?_) | (with_reducible refine below_drewN ?_ _) | ((with_reducible refine Below.setCell ?_ ?_ _); rotate_left; (focus (first | (simp; done) | (simp; omega) | omega))) | ((with_reducible refine Below.alloc ?_ ?_ _); rotate_left; (focus (first | (simp; done) | (simp; omega) | omega))) | ((with_reducible apply below_step1); (focus (with_reducible assumption)))))
  go_enter Tryz.func164, Tryz.ntmps164
  go_wp2_with fail
  go_ret
  exact ⟨rfl, hb⟩
def CnPost (X : List Co) (l : List HA) (e : Ending) (w' : World) : Prop := ∃ A c, e = .returned (.slice A X.length c) ∧ HS w' (rowA 9 1 (.slice A X.length c) X.length (X.map fun x => strV x.1.name) :: l)
def CtPost (X : List Co) (l : List HA) (e : Ending) (w' : World) : Prop := ∃ A c, e = .returned (.slice A X.length c) ∧ HS w' (rowA 3 1 (.slice A X.length c) X.length (X.map fun x => Value.int .i64 x.1.ty) :: l)
set_option maxRecDepth 100000 in
set_option maxHeartbeats 4000000 in
theorem collectN_s {w : World} {l l' : List HA} {A : Option Addr} {k : Nat} {X : List Co} (hn : X.length ≤ 1000000) (hs : ∀ x ∈ X, ∃ A n c, x.2 = .slice A n c) (H : HS w l) (hp : Pick l (rowA 80 7 (.slice A X.length k) X.length (coC X)) l') :
    Calls Tryz.prog 161 #[.slice A X.length k, .func (.func 162) #[] #[]] w (CnPost X l) := by
  have HSS := Lib.hid hs
  have Hw := H.rowNil 9 1
  clear hs H
  go_enter Tryz.func161, Tryz.ntmps161
  go_upto_region 3 with fail
  go_loopw [5, 10] (fun v5 v10 wr => ∃ i : Nat, v10 = .int .i64 (i : Int) ∧ i ≤ X.length ∧ HS wr (rowA 9 1 v5 i ((X.take i).map fun x => strV x.1.name) :: l)) (fun _ v10 _ => X.length - (intOf v10).toNat)
  case atStart => exact ⟨0, rfl, by omega, Hw⟩
  case round =>
    obtain ⟨i, rfl, hi, Hr⟩ := hrel
    clear Hw
    obtain ⟨A5, c5, rfl⟩ := Hr.slice (v := u5) (by with_reducible repeat constructor)
    by_cases hlt : i < X.length
    · have h1 : (i : Int) < (X.length : Int) := by omega
      have h0 : (0 : Int) ≤ (i : Int) := by omega
      obtain ⟨⟨c, v⟩, hc⟩ : ∃ x, X[i]? = some x := ⟨_, List.getElem?_eq_getElem hlt⟩
      obtain ⟨Av, nv, cv, e⟩ := HSS.out _ (List.mem_of_getElem? hc)
      dsimp only at e
      subst e
      have hS : (X.take (i + 1)).map (fun x => strV x.1.name) = (X.take i).map (fun x => strV x.1.name) ++ [.string ⟨c.name.toArray⟩] := by rw [List.take_add_one, hc, List.map_append]; rfl
      obtain ⟨gc, eA, hgc, hcc, -⟩ := Hr.rowAt (A := A) (.there hp) (fun e => by have := coC_at hc 0 _ rfl; rw [e] at this; cases this)
      subst eA
      have q0 := hcc _ _ (coC_at hc 0 _ rfl)
      have q1 := hcc _ _ (coC_at hc 1 _ rfl)
      have q2 := hcc _ _ (coC_at hc 2 _ rfl)
      have q3 := hcc _ _ (coC_at hc 3 _ rfl)
      have q4 := hcc _ _ (coC_at hc 4 _ rfl)
      have q5 := hcc _ _ (coC_at hc 5 _ rfl)
      have q6 := hcc _ _ (coC_at hc 6 _ rfl)
      rw [Nat.add_zero] at q0
      have HS2 := Lib.hid hS
      have hF := fun w1 => tname_c c _ Av nv cv rfl w1
      unfold colC at hF
      clear hS hcc hc
      go_upto_region 5 with fail
      obtain ⟨z, w1, ez, ew, H1⟩ := Hr.alloc_ex (colC c (.slice Av nv cv)) 80
      unfold colC at ew
      rw [ew, ez]
      clear ez ew q0 q1 q2 q3 q4 q5 q6
      have xB := HS.box (z := z) H1 (by with_reducible repeat constructor); have xL := Box.lt xB; obtain ⟨hcB, hfB⟩ := Box.cells xB; have x0 := hcB 0; have xf0 := hfB 0; have x1 := hcB 1; have xf1 := hfB 1; have x2 := hcB 2; have xf2 := hfB 2; have x3 := hcB 3; have xf3 := hfB 3; have x4 := hcB 4; have xf4 := hfB 4; have x5 := hcB 5; have xf5 := hfB 5; have x6 := hcB 6; have xf6 := hfB 6; clear hcB hfB; unfold colC at x0 x1 x2 x3 x4 x5 x6
      go_wp2_with (first
        | (go_at_call 162; (with_reducible refine (hF w1).mono ?_); rintro e w2 ⟨rfl, hb2⟩; have H2 := H1.below hb2)
        | (at_builtin; refine wpList_appAny (v := .slice A5 i c5) rfl _ _ stS (by rfl) (by rfl) ((H2.alloc #[.string ⟨c.name.toArray⟩] 9).row (v := .slice A5 i c5) (by with_reducible repeat constructor)) (by rfl) (news := [.string ⟨c.name.toArray⟩]) (by rfl) (litRd (heap_alloc_new _ _)) (fun h => by cases h) (by intro u hu; simp at hu; (repeat' (rcases hu with rfl | hu)); all_goals (first | rfl | (subst hu; rfl))) (by omega) (by first | exact Nat.zero_le _ | omega | (simp; omega)) ?_; intro vA wA ownA gA atA; have H3 := (H2.alloc #[.string ⟨c.name.toArray⟩] 9).app (v := .slice A5 i c5) (by with_reducible repeat constructor) ownA gA atA))
      go_roundw
      case rel =>
        refine ⟨i + 1, by go_num, by omega, ?_⟩
        rw [HS2.out]
        exact H3.sub (by with_reducible repeat constructor)
      case measure => simp [intOf]; omega
    · obtain rfl : i = X.length := by omega
      rw [List.take_of_length_le (Nat.le_refl _)] at Hr
      have h1 : ¬ (X.length : Int) < (X.length : Int) := by omega
      go_wp2_with fail
      go_ret
      exact ⟨A5, c5, rfl, Hr⟩
set_option maxRecDepth 100000 in
set_option maxHeartbeats 4000000 in
theorem collectT_s {w : World} {l l' : List HA} {A : Option Addr} {k : Nat} {X : List Co} (hn : X.length ≤ 1000000) (hs : ∀ x ∈ X, ∃ A n c, x.2 = .slice A n c) (H : HS w l) (hp : Pick l (rowA 80 7 (.slice A X.length k) X.length (coC X)) l') :
    Calls Tryz.prog 163 #[.slice A X.length k, .func (.func 164) #[] #[]] w (CtPost X l) := by
  have HSS := Lib.hid hs
  have Hw := H.rowNil 3 1
  clear hs H
  go_enter Tryz.func163, Tryz.ntmps163
  go_upto_region 3 with fail
  go_loopw [5, 10] (fun v5 v10 wr => ∃ i : Nat, v10 = .int .i64 (i : Int) ∧ i ≤ X.length ∧ HS wr (rowA 3 1 v5 i ((X.take i).map fun x => Value.int .i64 x.1.ty) :: l)) (fun _ v10 _ => X.length - (intOf v10).toNat)
  case atStart => exact ⟨0, rfl, by omega, Hw⟩
  case round =>
    obtain ⟨i, rfl, hi, Hr⟩ := hrel
    clear Hw
    obtain ⟨A5, c5, rfl⟩ := Hr.slice (v := u5) (by with_reducible repeat constructor)
    by_cases hlt : i < X.length
    · have h1 : (i : Int) < (X.length : Int) := by omega
      have h0 : (0 : Int) ≤ (i : Int) := by omega
      obtain ⟨⟨c, v⟩, hc⟩ : ∃ x, X[i]? = some x := ⟨_, List.getElem?_eq_getElem hlt⟩
      obtain ⟨Av, nv, cv, e⟩ := HSS.out _ (List.mem_of_getElem? hc)
      dsimp only at e
      subst e
      have hS : (X.take (i + 1)).map (fun x => Value.int .i64 x.1.ty) = (X.take i).map (fun x => Value.int .i64 x.1.ty) ++ [.int .i64 c.ty] := by rw [List.take_add_one, hc, List.map_append]; rfl
      obtain ⟨gc, eA, hgc, hcc, -⟩ := Hr.rowAt (A := A) (.there hp) (fun e => by have := coC_at hc 0 _ rfl; rw [e] at this; cases this)
      subst eA
      have q0 := hcc _ _ (coC_at hc 0 _ rfl)
      have q1 := hcc _ _ (coC_at hc 1 _ rfl)
      have q2 := hcc _ _ (coC_at hc 2 _ rfl)
      have q3 := hcc _ _ (coC_at hc 3 _ rfl)
      have q4 := hcc _ _ (coC_at hc 4 _ rfl)
      have q5 := hcc _ _ (coC_at hc 5 _ rfl)
      have q6 := hcc _ _ (coC_at hc 6 _ rfl)
      rw [Nat.add_zero] at q0
      have HS2 := Lib.hid hS
      have hF := fun w1 => ttype_c c _ Av nv cv rfl w1
      unfold colC at hF
      clear hS hcc hc
      go_upto_region 5 with fail
      obtain ⟨z, w1, ez, ew, H1⟩ := Hr.alloc_ex (colC c (.slice Av nv cv)) 80
      unfold colC at ew
      rw [ew, ez]
      clear ez ew q0 q1 q2 q3 q4 q5 q6
      have xB := HS.box (z := z) H1 (by with_reducible repeat constructor); have xL := Box.lt xB; obtain ⟨hcB, hfB⟩ := Box.cells xB; have x0 := hcB 0; have xf0 := hfB 0; have x1 := hcB 1; have xf1 := hfB 1; have x2 := hcB 2; have xf2 := hfB 2; have x3 := hcB 3; have xf3 := hfB 3; have x4 := hcB 4; have xf4 := hfB 4; have x5 := hcB 5; have xf5 := hfB 5; have x6 := hcB 6; have xf6 := hfB 6; clear hcB hfB; unfold colC at x0 x1 x2 x3 x4 x5 x6
      go_wp2_with (first
        | (go_at_call 164; (with_reducible refine (hF w1).mono ?_); rintro e w2 ⟨rfl, hb2⟩; have H2 := H1.below hb2)
        | (at_builtin; refine wpList_appAny (v := .slice A5 i c5) rfl _ _ stI (by rfl) (by rfl) ((H2.alloc #[.int .i64 c.ty] 3).row (v := .slice A5 i c5) (by with_reducible repeat constructor)) (by rfl) (news := [.int .i64 c.ty]) (by rfl) (litRd (heap_alloc_new _ _)) (fun h => by cases h) (by intro u hu; simp at hu; (repeat' (rcases hu with rfl | hu)); all_goals (first | rfl | (subst hu; rfl))) (by omega) (by first | exact Nat.zero_le _ | omega | (simp; omega)) ?_; intro vA wA ownA gA atA; have H3 := (H2.alloc #[.int .i64 c.ty] 3).app (v := .slice A5 i c5) (by with_reducible repeat constructor) ownA gA atA))
      go_roundw
      case rel =>
        refine ⟨i + 1, by go_num, by omega, ?_⟩
        rw [HS2.out]
        exact H3.sub (by with_reducible repeat constructor)
      case measure => simp [intOf]; omega
    · obtain rfl : i = X.length := by omega
      rw [List.take_of_length_le (Nat.le_refl _)] at Hr
      have h1 : ¬ (X.length : Int) < (X.length : Int) := by omega
      go_wp2_with fail
      go_ret
      exact ⟨A5, c5, rfl, Hr⟩
end Go.Proofs.YtgnmnaclndkmdaaGreatDoor
namespace Go.Proofs.YtgnmnaclndkmdaaGreatDoor
open Go.RowKit

/-- Stores with the names and types of their columns. -/
theorem stCl : SliceTy Tryz.prog 204 249 2 48 := SliceTy.mk' Tryz.underlying204 (z := .agg #[.slice none 0 0, .slice none 0 0]) (by kernel_rfl) rfl (by decide) (by decide)
section
variable {w : World} {l : List HA} {zk zb zi n m : Nat} {c : Fin 8 → Value} {sv : Value} {xs : List Value} {g : Bs → Option Nat}
set_option maxRecDepth 100000 in
set_option maxHeartbeats 4000000 in
theorem add_s (s : Bs) (hs : s.length ≤ 1000000) (hn : n ≤ 1000000) (hm : m ≤ 1000000) (A1 A2 : Option Addr) (n1 c1 n2 c2 : Nat) (H : HS w (boxA zk (ckC c zb zi sv) 206 :: mapI zi n g :: rowA 249 2 sv m xs :: l)) :
    Calls Tryz.prog 160 #[.pointer (some ⟨zk, 0, none⟩), .string ⟨s.toArray⟩, .agg #[.slice A1 n1 c1, .slice A2 n2 c2]] w fun e w' => e = .returned (.tuple #[]) ∧ ∃ sv', HS w' (boxA zk (ckC c zb zi sv') 206 :: mapI zi (n + 1) (fun t => if t = s then some m else g t) :: rowA 249 2 sv' (m + 1) (xs ++ [.slice A1 n1 c1, .slice A2 n2 c2]) :: l) := by
  obtain ⟨As, cs, rfl⟩ := H.slice (v := sv) (by with_reducible repeat constructor)
  have hml : s.length ≤ maxLen := by unfold maxLen; omega
  have H1 := (H.alloc #[.slice A1 n1 c1, .slice A2 n2 c2] 249).drew
  obtain ⟨w2, hup, H2⟩ := H1.mapPutI (z := zi) (n := n) (g := g) (by with_reducible repeat constructor) hml (by unfold maxLen; omega) m hm
  have dB := HS.box (z := zk) H1 (by with_reducible repeat constructor); have dL := Box.lt dB; obtain ⟨hcB, hfB⟩ := Box.cells dB; have d9 := hcB 9; have df9 := hfB 9; have d10 := hcB 10; have df10 := hfB 10; clear hcB hfB; unfold ckC at d9 d10
  have H3 := H2.drew
  have eB := HS.box (z := zk) H2 (by with_reducible repeat constructor); have eL := Box.lt eB; obtain ⟨hcB, hfB⟩ := Box.cells eB; have e10 := hcB 10; have ef10 := hfB 10; clear hcB hfB; unfold ckC at e10
  have fB := HS.box (z := w.heap.size) H2 (by with_reducible repeat constructor); have fL := Box.lt fB; obtain ⟨hcB, hfB⟩ := Box.cells fB; have f0 := hcB 0; have ff0 := hfB 0; have f1 := hcB 1; have ff1 := hfB 1; clear hcB hfB
  clear H H1 H2
  go_enter Tryz.func160, Tryz.ntmps160
  go_upto_region 1 with fail
  (refine wp_region_G 10 (fun w' => w'.cell? ⟨zk, 9, none⟩ = some (.map (some zi)) ∧ w'.cell? ⟨zk, 10, none⟩ = some (.slice As m cs)) (by kernel_rfl) ?_ (fun hHeld => ?_); (focus (try dsimp only); go_keep))
  (refine GG.tk 0 (v := ?_) rfl (by kernel_rfl) (fun _ _ _ h => h) (by rfl) (by assumption) ?_ ?_; rotate_left; (focus (intro w h; (try dsimp only at h); go_simp; (try with_reducible rfl))); (try simp only [Act.put, qqa]); refine GG.tk 1 (v := ?_) rfl (by kernel_rfl) (fun _ _ _ h => h) (by rfl) (by assumption) ?_ ?_; rotate_left; (focus (intro w h; (try dsimp only at h); go_simp; (try with_reducible rfl))); (try simp only [Act.put]); refine GG.tk 2 (v := ?_) rfl (by kernel_rfl) (fun _ _ _ h => h) (by rfl) (by assumption) ?_ ?_; rotate_left; (focus (intro w h; (try dsimp only at h); go_simp; (try with_reducible rfl))); (try simp only [Act.put]); refine GG.tk 3 (v := ?_) rfl (by kernel_rfl) (fun _ _ _ h => h) (by rfl) (by assumption) ?_ ?_; rotate_left; (focus (intro w h; (try dsimp only at h); go_simp; (try with_reducible rfl))); (try simp only [Act.put]); refine GG.tk 4 (v := ?_) rfl (by kernel_rfl) (fun _ _ _ h => h) (by rfl) (by assumption) ?_ ?_; rotate_left; (focus (intro w h; (try dsimp only at h); go_simp; (try with_reducible rfl))); (try simp only [Act.put]); refine GG.tk 5 (v := ?_) rfl (by kernel_rfl) (fun _ _ _ h => h) (by rfl) (by assumption) ?_ ?_; rotate_left; (focus (intro w h; (try dsimp only at h); go_simp; (try with_reducible rfl))); (try simp only [Act.put]); refine GG.tk 6 (v := ?_) rfl (by kernel_rfl) (fun _ _ _ h => h) (by rfl) (by assumption) ?_ ?_; rotate_left; (focus (intro w h; (try dsimp only at h); go_simp; (try with_reducible rfl))); (try simp only [Act.put]); refine GG.tk 7 (v := ?_) rfl (by kernel_rfl) (fun _ _ _ h => h) (by rfl) (by assumption) ?_ ?_; rotate_left; (focus (intro w h; (try dsimp only at h); go_simp; (try with_reducible rfl))); (try simp only [Act.put]); refine GG.tk 8 (v := ?_) rfl (by kernel_rfl) (fun _ _ _ h => h) (by rfl) (by assumption) ?_ ?_; rotate_left; (focus (intro w h; (try dsimp only at h); go_simp; (try with_reducible rfl))); (try simp only [Act.put]); refine GG.tk 9 (v := ?_) rfl (by kernel_rfl) (fun _ _ _ h => h) (by rfl) (by assumption) ?_ ?_; rotate_left; (focus (intro w h; (try dsimp only at h); go_simp; (try with_reducible rfl))); (try simp only [Act.put]))
  (refine GG.last (by kernel_rfl) (by kernel_rfl) rfl (fun K hK => ?_); go_simp; refine hK.out _ _ ?_; clear hK K)
  go_upto_region 2 with fail
  (refine wp_region_G 10 (fun w' => w'.cell? ⟨zk, 10, none⟩ = some (.slice As m cs) ∧ w'.cell? ⟨w.heap.size, 0, none⟩ = some (.slice A1 n1 c1) ∧ w'.cell? ⟨w.heap.size, 1, none⟩ = some (.slice A2 n2 c2)) (by kernel_rfl) ?_ (fun hHeld => ?_); (focus (try dsimp only); go_keep))
  (refine GG.tk 0 (v := ?_) rfl (by kernel_rfl) (fun _ _ _ h => h) (by rfl) (by assumption) ?_ ?_; rotate_left; (focus (intro w h; (try dsimp only at h); go_simp; (try with_reducible rfl))); (try simp only [Act.put, qqa]); refine GG.tk 1 (v := ?_) rfl (by kernel_rfl) (fun _ _ _ h => h) (by rfl) (by assumption) ?_ ?_; rotate_left; (focus (intro w h; (try dsimp only at h); go_simp; (try with_reducible rfl))); (try simp only [Act.put]); refine GG.tk 2 (v := ?_) rfl (by kernel_rfl) (fun _ _ _ h => h) (by rfl) (by assumption) ?_ ?_; rotate_left; (focus (intro w h; (try dsimp only at h); go_simp; (try with_reducible rfl))); (try simp only [Act.put]); refine GG.tk 3 (v := ?_) rfl (by kernel_rfl) (fun _ _ _ h => h) (by rfl) (by assumption) ?_ ?_; rotate_left; (focus (intro w h; (try dsimp only at h); go_simp; (try with_reducible rfl))); (try simp only [Act.put]); refine GG.tk 4 (v := ?_) rfl (by kernel_rfl) (fun _ _ _ h => h) (by rfl) (by assumption) ?_ ?_; rotate_left; (focus (intro w h; (try dsimp only at h); go_simp; (try with_reducible rfl))); (try simp only [Act.put]); refine GG.tk 5 (v := ?_) rfl (by kernel_rfl) (fun _ _ _ h => h) (by rfl) (by assumption) ?_ ?_; rotate_left; (focus (intro w h; (try dsimp only at h); go_simp; (try with_reducible rfl))); (try simp only [Act.put]))
  have H4 := H3.alloc #[.slice A1 n1 c1, .slice A2 n2 c2] 249
  have own7 := H4.row (v := .slice As m cs) (by with_reducible repeat constructor)
  (refine GG.one 6 (by kernel_rfl) (by decide) rfl (fun K hK => ?_); go_simp; refine hK.out _ _ ?_ (fun hHeld => ?_); (focus (try dsimp only); go_keep); clear hK K; (try simp only [Act.put, qqa, qqb, qqc]))
  (refine GG.one 7 (by kernel_rfl) (by decide) rfl (fun K hK => ?_); (refine step_app3 (v := .slice As m cs) (by rfl) _ _ stCl (by rfl) (by rfl) own7 (by rfl) (news := [.slice A1 n1 c1, .slice A2 n2 c2]) (by rfl) (litRd (heap_alloc_new _ _)) (fun h => by cases h) (by intro u hu; simp at hu; (repeat' (rcases hu with rfl | hu)); all_goals (first | rfl | (subst hu; rfl))) (by omega) (by first | exact Nat.zero_le _ | omega | (simp; omega)) ?_; intro vA wA ownA gA atA; have H5 := H4.app (v := .slice As m cs) (by with_reducible repeat constructor) ownA gA atA; have hB := HS.box (z := zk) H5 (by with_reducible repeat constructor); have hL := Box.lt hB; obtain ⟨hcB, hfB⟩ := Box.cells hB; have h10 := hcB 10; have hf10 := hfB 10; clear hcB hfB; unfold ckC at h10; have kB := HS.box (z := w.heap.size) H5 (by with_reducible repeat constructor); have kL := Box.lt kB; obtain ⟨hcB, hfB⟩ := Box.cells kB; have k0 := hcB 0; have kf0 := hfB 0; have k1 := hcB 1; have kf1 := hfB 1; clear hcB hfB; obtain ⟨AB, cB, rfl, -, -⟩ := own_slice ownA; clear ownA gA atA); refine hK.out _ _ ?_ (fun hHeld => ?_); (focus (try dsimp only); go_keep); clear hK K; (try simp only [Act.put, qqa]))
  (refine GG.tk 8 (v := ?_) rfl (by kernel_rfl) (fun _ _ _ h => h) (by rfl) (by assumption) ?_ ?_; rotate_left; (focus (intro w h; (try dsimp only at h); go_simp; (try with_reducible rfl))); (try simp only [Act.put]); refine GG.tk 9 (v := ?_) rfl (by kernel_rfl) (fun _ _ _ h => h) (by rfl) (by assumption) ?_ ?_; rotate_left; (focus (intro w h; (try dsimp only at h); go_simp; (try with_reducible rfl))); (try simp only [Act.put]))
  (refine GG.last (by kernel_rfl) (by kernel_rfl) rfl (fun K hK => ?_); go_simp; refine hK.out _ _ ?_; clear hK K)
  go_end0
  exact ⟨rfl, .slice AB (m + 1) cB, (H5.storeTo (z := zk) (by with_reducible repeat constructor) 10 (.slice AB (m + 1) cB) (ckC c zb zi (.slice AB (m + 1) cB)) rfl).sub (by with_reducible repeat constructor)⟩
end
end Go.Proofs.YtgnmnaclndkmdaaGreatDoor
namespace Go.Proofs.YtgnmnaclndkmdaaGreatDoor
open Go.RowKit

set_option maxRecDepth 100000 in
set_option maxHeartbeats 4000000 in
theorem same_c {w : World} {zc : Nat} (c : Col) (A : Option Addr) (n k : Nat) (s : Bs) (hc : w.cell? ⟨zc, 0, none⟩ = some (.string ⟨s.toArray⟩)) (hz : zc < w.heap.size) : Calls Tryz.prog 189 #[.agg (colC c (.slice A n k)), .pointer (some ⟨zc, 0, none⟩)] w fun e w' => e = .returned (.bool (c.name == s)) ∧ Below w.heap.size w w' := by
  have hz1 := heap_alloc_new w (.cells (colC c (.slice A n k)) 80)
  have hb : Below w.heap.size w (w.alloc (.cells (colC c (.slice A n k)) 80)) := by (repeat (first | (with_reducible exact Below.refl _ _) | (with_reducible assumption) | (with_reducible refine Below.drew ?_) | (with_reducible refine below_drewN ?_ _) | ((with_reducible refine Below.setCell ?_ ?_ _); rotate_left; (focus (first | (simp; done) | (simp; omega) | omega))) | ((with_reducible refine Below.alloc ?_ ?_ _); rotate_left; (focus (first | (simp; done) | (simp; omega) | omega))) | ((with_reducible apply below_step1); (focus (with_reducible assumption)))))
  have hc2 : (w.alloc (.cells (colC c (.slice A n k)) 80)).cell? ⟨zc, 0, none⟩ = some (.string ⟨s.toArray⟩) := ((bcell hb).1 zc 0 hz).trans hc
  unfold colC at hz1 hb hc2 ⊢
  go_enter Tryz.func189, Tryz.ntmps189
  go_wp2_with fail
  go_ret
  exact ⟨rfl, hb⟩
def hasName (X : List Co) (k : Nat) (s : Bs) : Bool := (X.take k).any fun x => x.1.name == s
theorem hasName_snoc {X : List Co} {i : Nat} {x : Co} {s : Bs} (h : X[i]? = some x) : hasName X (i + 1) s = (hasName X i s || x.1.name == s) := by
  unfold hasName
  rw [List.take_add_one, h, List.any_append]
  simp
theorem hasName_le {X : List Co} {i k : Nat} {s : Bs} (h : hasName X i s = true) (hk : i ≤ k) : hasName X k s = true := by
  unfold hasName at h ⊢
  rw [List.any_eq_true] at h ⊢
  obtain ⟨x, hx, e⟩ := h
  refine ⟨x, ?_, e⟩
  rw [show X.take i = (X.take k).take i by rw [List.take_take, Nat.min_eq_left hk]] at hx
  exact List.mem_of_mem_take hx
def IfPost (X : List Co) (k : Nat) (s : Bs) (l : List HA) (e : Ending) (w' : World) : Prop := ∃ r : Int, e = .returned (.int .i64 r) ∧ decide (0 ≤ r) = hasName X k s ∧ HS w' l
set_option maxRecDepth 100000 in
set_option maxHeartbeats 4000000 in
theorem indexF_s {w : World} {l : List HA} {zc kk k k' n0 k0 : Nat} {A A0 : Option Addr} {X : List Co} (c0 : Col) (hn : X.length ≤ 1000000) (hs : ∀ x ∈ X, ∃ A n c, x.2 = .slice A n c) (hk : k ≤ X.length) (H : HS w (boxA zc (colC c0 (.slice A0 n0 k0)) 80 :: rowA 80 7 (.slice A X.length kk) X.length (coC X) :: l)) :
    Calls Tryz.prog 206 #[.slice A k k', .func (.func 189) #[] #[.pointer (some ⟨zc, 0, none⟩)]] w (IfPost X k c0.name (boxA zc (colC c0 (.slice A0 n0 k0)) 80 :: rowA 80 7 (.slice A X.length kk) X.length (coC X) :: l)) := by
  have HSS := Lib.hid hs
  clear hs
  go_enter Tryz.func206, Tryz.ntmps206
  go_upto_region 2 with fail
  go_loopw [8] (fun v8 wr => ∃ i : Nat, v8 = .int .i64 (i : Int) ∧ i ≤ k ∧ Hid (hasName X i c0.name = false) ∧ HS wr (boxA zc (colC c0 (.slice A0 n0 k0)) 80 :: rowA 80 7 (.slice A X.length kk) X.length (coC X) :: l)) (fun v8 _ => k - (intOf v8).toNat)
  case atStart => exact ⟨0, rfl, by omega, rfl, H⟩
  case round =>
    obtain ⟨i, rfl, hi, HN, Hr⟩ := hrel
    clear H
    by_cases hlt : i < k
    · have h1 : (i : Int) < (k : Int) := by omega
      have h0 : (0 : Int) ≤ (i : Int) := by omega
      obtain ⟨⟨c, v⟩, hc⟩ : ∃ x, X[i]? = some x := ⟨_, List.getElem?_eq_getElem (by omega)⟩
      obtain ⟨Av, nv, cv, e⟩ := HSS.out _ (List.mem_of_getElem? hc)
      dsimp only at e
      subst e
      have hS := hasName_snoc (s := c0.name) hc
      rw [HN.out, Bool.false_or] at hS
      obtain ⟨gc, eA, hgc, hcc, -⟩ := Hr.rowAt (A := A) (by with_reducible repeat constructor) (fun e => by have := coC_at hc 0 _ rfl; rw [e] at this; cases this)
      subst eA
      have q0 := hcc _ _ (coC_at hc 0 _ rfl)
      have q1 := hcc _ _ (coC_at hc 1 _ rfl)
      have q2 := hcc _ _ (coC_at hc 2 _ rfl)
      have q3 := hcc _ _ (coC_at hc 3 _ rfl)
      have q4 := hcc _ _ (coC_at hc 4 _ rfl)
      have q5 := hcc _ _ (coC_at hc 5 _ rfl)
      have q6 := hcc _ _ (coC_at hc 6 _ rfl)
      rw [Nat.add_zero] at q0
      have dB := HS.box (z := zc) Hr (by with_reducible repeat constructor); have dL := Box.lt dB; obtain ⟨hcB, hfB⟩ := Box.cells dB; have d0 := hcB 0; have df0 := hfB 0; clear hcB hfB; unfold colC at d0
      have hF := same_c c Av nv cv c0.name d0 dL
      unfold colC at hF
      clear hcc hc HN
      cases hb : (c.name == c0.name) with
      | true =>
        rw [hb] at hF hS
        have HT := Lib.hid (hasName_le hS (show i + 1 ≤ k by omega))
        clear hS hb
        go_wp2_with (go_at_call 189; (with_reducible refine hF.mono ?_); rintro e w2 ⟨rfl, hb2⟩; have H2 := Hr.below hb2)
        go_ret
        exact ⟨(i : Int), rfl, by rw [HT.out]; simp, H2⟩
      | false =>
        rw [hb] at hF hS
        have HT := Lib.hid hS
        clear hS hb
        go_wp2_with (go_at_call 189; (with_reducible refine hF.mono ?_); rintro e w2 ⟨rfl, hb2⟩; have H2 := Hr.below hb2)
        go_roundw
        case rel => exact ⟨i + 1, by go_num, by omega, HT, H2⟩
        case measure => simp [intOf]; omega
    · obtain rfl : i = k := by omega
      have h1 : ¬ (i : Int) < (i : Int) := by omega
      go_wp2_with fail
      go_ret
      exact ⟨-1, rfl, by rw [HN.out]; decide, Hr⟩
def CfPost (X : List Co) (k : Nat) (s : Bs) (l : List HA) (e : Ending) (w' : World) : Prop := e = .returned (.bool (hasName X k s)) ∧ HS w' l
set_option maxRecDepth 100000 in
set_option maxHeartbeats 4000000 in
theorem containsF_s {w : World} {l : List HA} {zc kk k k' n0 k0 : Nat} {A A0 : Option Addr} {X : List Co} (c0 : Col) (hn : X.length ≤ 1000000) (hs : ∀ x ∈ X, ∃ A n c, x.2 = .slice A n c) (hk : k ≤ X.length) (H : HS w (boxA zc (colC c0 (.slice A0 n0 k0)) 80 :: rowA 80 7 (.slice A X.length kk) X.length (coC X) :: l)) :
    Calls Tryz.prog 188 #[.slice A k k', .func (.func 189) #[] #[.pointer (some ⟨zc, 0, none⟩)]] w (CfPost X k c0.name (boxA zc (colC c0 (.slice A0 n0 k0)) 80 :: rowA 80 7 (.slice A X.length kk) X.length (coC X) :: l)) := by
  have hI := indexF_s (k' := k') c0 hn hs hk H
  unfold IfPost at hI
  clear H hs
  go_enter Tryz.func188, Tryz.ntmps188
  go_wp2_with (go_at_call 206; (with_reducible refine hI.mono ?_); rintro e w2 ⟨r, rfl, hr, H2⟩; have HR := Lib.hid hr; clear hr)
  go_ret
  exact ⟨ret_bool HR.out, H2⟩
end Go.Proofs.YtgnmnaclndkmdaaGreatDoor
