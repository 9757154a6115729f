/- The look-up of the names of all tables: the loop of resolve over them, in a catalogue without views and places. At most 1000000 tables. resolve, where the first view has a left store that isn't declared, in a catalogue without tables. Maps from strings as parts of memory: a set, and numbers. Keys of at most maxLen bytes. -/
import Derived.Test.YtgnmnaclndkmdaaGreatDoorBn33
import Derived.Test.YtgnmnaclndkmdaaGreatDoorBn32
import Derived.Maps.OwnSet
import Derived.StringKeys
namespace Go.Proofs.YtgnmnaclndkmdaaGreatDoor
open Go.RowKit

theorem allA_split {w : World} {m n l : List HA} (h : HS w (allA (m ++ n) :: l)) : HS w (allA m :: allA n :: l) := by
  obtain ⟨S, S1, S2, h1, h2, h3, h4⟩ := h
  obtain ⟨T1, T2, g1, g2, g3, g4⟩ := Sep.split h1
  refine ⟨S, T1, fun k => T2 k ∨ S2 k, g1, ⟨T2, S2, g2, h2, fun k a => h3 k ((g4 k).2 (.inr a)), fun _ => Iff.rfl⟩, fun k a b => ?_, fun k => ?_⟩
  · rcases b with b | b
    · exact g3 k a b
    · exact h3 k ((g4 k).2 (.inl a)) b
  · rw [h4, g4, or_assoc]
theorem HS.pushAll {w : World} {l l1 l2 l3 m : List HA} {A B : HA} (H : HS w l) (h1 : Pick l A l1) (h2 : Pick l1 B l2) (h3 : Pick l2 (allA m) l3) : HS w (allA (m ++ [A, B]) :: l3) := by
  rw [show m ++ [A, B] = (m ++ [A]) ++ [B] by simp]
  exact HS.pushA (HS.pushA (A := A) (((H.pick h1).pick (.there h2)).pick (.there (.there h3))) (.there (.there .here)) .here) (.there .here) .here
theorem mapE_error {α β : Type} {f : α → Except Er β} : ∀ {l : List α} {p : Er}, mapE f l = .error p → ∃ a ∈ l, f a = .error p
  | a :: l, p, h => by
    rw [mapE] at h
    cases ha : f a with
    | error q =>
      rw [ha] at h
      injection h with h
      subst h
      exact ⟨a, List.mem_cons_self .., ha⟩
    | ok b =>
      rw [ha] at h
      cases hl : mapE f l with
      | error q =>
        rw [hl] at h
        injection h with h
        subst h
        obtain ⟨c, hc, e⟩ := mapE_error hl
        exact ⟨c, List.mem_cons_of_mem _ hc, e⟩
      | ok m => rw [hl] at h; cases h
theorem resTable_err {t : Tab} {o : List (List Tk)} {p : Er} (h : resTable t o = .error p) : p.2 = 3 := by
  unfold resTable at h
  split at h
  · rename_i q hq
    injection h with h
    subst h
    obtain ⟨a, -, ha⟩ := mapE_error hq
    obtain ⟨b, -, hb⟩ := mapE_error ha
    exact (fcR_error hb).2
  · cases h
abbrev Tt := Tab × List (List Tk) × Tq
/-- A table whose owners have been looked up: the table, its slice of columns, the columns. -/
structure Td where
  tab : Tab
  cv : Value
  n : Nat
  X : List Co
def Td.parts (d : Td) : List HA := [rowA 80 7 d.cv d.n (coC d.X), allA (d.X.map coA)]
def Td.ok (d : Td) : Prop := d.X.map Prod.fst = d.tab.cols
/-- A table, as the scope has it. -/
def tSc (x : Tt) : Bs × List Bs := (x.1.name, x.1.cols.map Col.name)
def scL (sc : Sq) : List (Bs × List Bs) := sc.map fun x => (x.1, x.2.2)
/-- After i tables. -/
structure TabsAt (tabs : List Tt) (i : Nat) (sc : Sq) (D : List Td) : Prop where
  e : mapE (fun x : Tt => resTable x.1 x.2.1) (tabs.take i) = .ok (D.map Td.tab)
  s : scL sc = (tabs.take i).map tSc
  n : sc.length = i
  d : ∀ x ∈ D, x.ok
  c : D.map Td.cv = (tabs.take i).map fun x => x.2.2.cv
theorem TabsAt.nil {tabs : List Tt} : TabsAt tabs 0 [] [] := ⟨rfl, rfl, rfl, (fun x hx => by cases hx), rfl⟩
theorem TabsAt.snoc {tabs : List Tt} {i : Nat} {sc : Sq} {D : List Td} {x : Tt} {t : Tab} {X : List Co} {nv : Value} {n : Nat} (h : TabsAt tabs i sc D) (hx : tabs[i]? = some x) (ht : resTable x.1 x.2.1 = .ok t) (hX : X.map Prod.fst = t.cols) :
    TabsAt tabs (i + 1) (sc ++ [(x.1.name, nv, x.1.cols.map Col.name)]) (D ++ [⟨t, x.2.2.cv, n, X⟩]) := by
  refine ⟨?_, ?_, by simp [h.n], fun y hy => ?_, ?_⟩
  · rw [List.map_append]
    exact mapE_step h.e hx ht
  · have := h.s
    unfold scL at this ⊢
    rw [List.map_append, this, List.take_add_one, hx, List.map_append]
    rfl
  · rcases List.mem_append.1 hy with hy | hy
    · exact h.d y hy
    · rw [List.mem_singleton] at hy
      subst hy
      exact hX
  · rw [List.map_append, h.c, List.take_add_one, hx, List.map_append]
    rfl
/-- The answer of the look-up of tables: an error, or the tables with what lies in memory. -/
def TsPost (pb : Nat) (ds : Array Value) (Tv Ov : Value) (tabs : List Tt) (l : List HA) : Except Er (List Tab) → Ending → World → Prop
  | .error p, e, w => e = .returned (.tuple #[.int .i64 p.1, .int .i64 p.2]) ∧ HS w l
  | .ok ts, e, w => e = .returned (.tuple #[.int .i64 0, .int .i64 0]) ∧ ∃ D : List Td, D.map Td.tab = ts ∧ (∀ x ∈ D, x.ok) ∧ D.map Td.cv = tabs.map (fun x => x.2.2.cv) ∧
    HS w (boxA pb ds 58 :: rowA 77 4 Tv tabs.length (tabs.flatMap tabR) :: rowA 179 1 Ov tabs.length (tabs.map fun x => x.2.2.ov) :: allA (D.flatMap Td.parts) :: l)
theorem tabR_at {tabs : List Tt} {i : Nat} {x : Tt} (h : tabs[i]? = some x) (j : Nat) (u : Value) (hu : (tabR x)[j]? = some u) : (tabs.flatMap tabR)[i * 4 + j]? = some u := flatMap_at 4 (fun _ => rfl) tabs i j x u h hu
set_option maxRecDepth 100000 in
set_option maxHeartbeats 8000000 in
theorem resolveT_s {w : World} {l : List HA} {pb k1 k2 k3 k4 : Nat} {A1 A2 A3 A4 : Option Addr} {Tv Ov : Value} {ds : Array Value} (tabs : List Tt)
    (hwf : ∀ x ∈ tabs, WfT x.1 x.2.1) (hsm : ∀ x ∈ tabs, SmT x.1 x.2.1) (hok : ∀ x ∈ tabs, x.2.2.tq.map Prod.fst = x.2.1) (hn : tabs.length ≤ 1000000) (h6 : ds[6]? = some Tv) (h22 : ds[22]? = some Ov)
    (h7 : ds[7]? = some (.slice A1 0 k1)) (h24 : ds[24]? = some (.slice A2 0 k2)) (h25 : ds[25]? = some (.slice A3 0 k3)) (h26 : ds[26]? = some (.slice A4 0 k4))
    (H : HS w (boxA pb ds 58 :: rowA 77 4 Tv tabs.length (tabs.flatMap tabR) :: rowA 179 1 Ov tabs.length (tabs.map fun x => x.2.2.ov) :: allA (tabs.flatMap fun x => x.2.2.parts x.1) :: l)) :
    Calls Tryz.prog 43 #[.pointer (some ⟨pb, 6, none⟩)] w (TsPost pb ds Tv Ov tabs l (mapE (fun x : Tt => resTable x.1 x.2.1) tabs)) := by
  obtain ⟨R, hR⟩ : ∃ R, mapE (fun x : Tt => resTable x.1 x.2.1) tabs = R := ⟨_, rfl⟩
  rw [hR]
  have HR := Lib.hid hR
  clear hR
  obtain ⟨At, ct, rfl⟩ := H.slice (v := Tv) (by with_reducible repeat constructor)
  have HWF := Lib.hid hwf
  have HSM := Lib.hid hsm
  have HOK := Lib.hid hok
  clear hwf hsm hok
  have H1 := H.alloc #[.slice none 0 0, .slice none 0 0] 137
  have dB := HS.box (z := pb) H1 (by with_reducible repeat constructor); have dL := Box.lt dB; obtain ⟨hcB, hfB⟩ := Box.cells dB; have d6 := hcB 6; have df6 := hfB 6; clear hcB hfB
  rw [h6] at d6
  have Hw := ((H1.rowNil 9 1).rowNil 26 1).namesNil
  clear H H1
  go_enter Tryz.func43, Tryz.ntmps43
  go_upto_region 3 with fail
  generalize hzs : w.heap.size = zs at Hw ⊢
  clear hzs
  go_loopw [32] (fun v32 wr => ∃ (i : Nat) (sc : Sq) (D : List Td) (sv cv : Value), v32 = .int .i64 (i : Int) ∧ i ≤ tabs.length ∧ TabsAt tabs i sc D ∧ HS wr (boxA zs #[sv, cv] 137 :: rowA 9 1 sv i (sc.map fun x => strV x.1) :: rowA 26 1 cv i (sc.map fun x => x.2.1) :: namesA (sc.map fun x => x.2) :: boxA pb ds 58 :: rowA 77 4 (.slice At tabs.length ct) tabs.length (tabs.flatMap tabR) :: rowA 179 1 Ov tabs.length (tabs.map fun x => x.2.2.ov) :: allA (D.flatMap Td.parts) :: allA ((tabs.drop i).flatMap fun x => x.2.2.parts x.1) :: l)) (fun v32 _ => tabs.length - (intOf v32).toNat)
  case atStart =>
    refine ⟨0, [], [], .slice none 0 0, .slice none 0 0, rfl, by omega, TabsAt.nil, ?_⟩
    simp only [List.map_nil, List.flatMap_nil, List.drop_zero]
    exact (HS.mkAll (m := []) Hw).sub (by with_reducible repeat constructor)
  case round =>
    obtain ⟨i, sc, D, sv, cv, rfl, hi, hT, Hr⟩ := hrel
    clear d6 df6 dB dL Hw
    by_cases hlt : i < tabs.length
    · have h1 : (i : Int) < (tabs.length : Int) := by omega
      have h0 : (0 : Int) ≤ (i : Int) := by omega
      obtain ⟨x, hx⟩ : ∃ x, tabs[i]? = some x := ⟨_, List.getElem?_eq_getElem hlt⟩
      have hm := List.mem_of_getElem? hx
      have hS := HSM.out x hm
      have hdr : tabs.drop i = x :: tabs.drop (i + 1) := by
        obtain ⟨h5, h6⟩ := List.getElem?_eq_some_iff.1 hx
        rw [List.drop_eq_getElem_cons h5, h6]
      rw [hdr, List.flatMap_cons] at Hr
      have hox : (tabs.map fun x => x.2.2.ov)[i]? = some x.2.2.ov := by rw [List.getElem?_map, hx]; rfl
      have H2 := (allA_split (Hr.sub (l' := allA (x.2.2.parts x.1 ++ (tabs.drop (i + 1)).flatMap fun x => x.2.2.parts x.1) :: boxA zs #[sv, cv] 137 :: rowA 9 1 sv i (sc.map fun x => strV x.1) :: rowA 26 1 cv i (sc.map fun x => x.2.1) :: namesA (sc.map fun x => x.2) :: boxA pb ds 58 :: rowA 77 4 (.slice At tabs.length ct) tabs.length (tabs.flatMap tabR) :: rowA 179 1 Ov tabs.length (tabs.map fun x => x.2.2.ov) :: allA (D.flatMap Td.parts) :: l) (by with_reducible repeat constructor))).all_
      have H3 : HS wr (boxA zs #[sv, cv] 137 :: rowA 9 1 sv i (sc.map fun x => strV x.1) :: rowA 26 1 cv i (sc.map fun x => x.2.1) :: namesA (sc.map fun x => x.2) :: boxA pb ds 58 :: rowA 77 4 (.slice At tabs.length ct) tabs.length (tabs.flatMap tabR) :: rowA 179 1 Ov tabs.length (tabs.map fun x => x.2.2.ov) :: (x.2.2.parts x.1 ++ (allA (D.flatMap Td.parts) :: allA ((tabs.drop (i + 1)).flatMap fun x => x.2.2.parts x.1) :: l))) := by
        unfold Tq.parts at H2 ⊢
        simp only [List.cons_append, List.nil_append] at H2 ⊢
        exact H2.sub (by with_reducible repeat constructor)
      have hC := resolveTable_s (l := allA (D.flatMap Td.parts) :: allA ((tabs.drop (i + 1)).flatMap fun x => x.2.2.parts x.1) :: l) (k := i) (ds := ds) (sn := i) x (HWF.out x hm) (HOK.out x hm) h6 h22 (tabR_at hx) hox hlt hlt hn hn hS.n hS.o (by omega) H3
      clear H2 H3 Hr hdr hox hS
      cases hq : resTable x.1 x.2.1 with
      | error p =>
        rw [hq] at hC
        have hR := HR.out
        rw [mapE_stop hT.e hx hq] at hR
        subst hR
        unfold RtbPost at hC
        have hp0 := resTable_err hq
        clear HR hT hq
        obtain ⟨p1, p2⟩ := p
        dsimp only at hp0 hC ⊢
        subst hp0
        go_wp2_with (go_at_call 72; (with_reducible refine hC.mono ?_); rintro e w4 ⟨rfl, H4⟩)
        go_ret2
        exact ⟨rfl, H4.sub (by with_reducible repeat constructor)⟩
      | ok t =>
        rw [hq] at hC
        unfold RtbPost at hC
        have hT2 := fun (X : List Co) (nv : Value) (hX : X.map Prod.fst = t.cols) => hT.snoc (nv := nv) (n := x.1.cols.length) hx hq hX
        have HT := Lib.hid hT2
        clear hT hT2 hq
        go_wp2_with (go_at_call 72; (with_reducible refine hC.mono ?_); rintro e w4 ⟨rfl, X, sv2, cv2, nv, hX, H4⟩; have HX := Lib.hid hX; clear hX)
        go_roundw
        case rel =>
          refine ⟨i + 1, _, _, sv2, cv2, by go_num, by omega, HT.out X nv HX.out, ?_⟩
          rw [List.flatMap_append, List.map_append, List.map_append, List.map_append, show List.flatMap Td.parts [(⟨t, x.2.2.cv, x.1.cols.length, X⟩ : Td)] = [rowA 80 7 x.2.2.cv x.1.cols.length (coC X), allA (X.map coA)] from rfl]
          simp only [List.map_cons, List.map_nil]
          exact (HS.pushAll (m := D.flatMap Td.parts) (A := rowA 80 7 x.2.2.cv x.1.cols.length (coC X)) (B := allA (X.map coA)) H4 (by with_reducible repeat constructor) (by with_reducible repeat constructor) (by with_reducible repeat constructor)).sub (by with_reducible repeat constructor)
        case measure => simp [intOf]; omega
    · obtain rfl : i = tabs.length := by omega
      have h1 : ¬ (tabs.length : Int) < (tabs.length : Int) := by omega
      have hE := hT.e
      rw [List.take_of_length_le (Nat.le_refl _)] at hE
      have hR := HR.out
      rw [hE] at hR
      subst hR
      have hD := hT.d
      have hcv := hT.c
      rw [List.take_of_length_le (Nat.le_refl _)] at hcv
      have HD := Lib.hid hD
      have HC := Lib.hid hcv
      clear HR hE hT hD hcv
      have dB := HS.box (z := pb) Hr (by with_reducible repeat constructor); have dL := Box.lt dB; obtain ⟨hcB, hfB⟩ := Box.cells dB; have d7 := hcB 7; have df7 := hfB 7; have d24 := hcB 24; have df24 := hfB 24; have d25 := hcB 25; have df25 := hfB 25; have d26 := hcB 26; have df26 := hfB 26; clear hcB hfB
      rw [h7] at d7
      rw [h24] at d24
      rw [h25] at d25
      rw [h26] at d26
      go_upto_region 10 with fail
      go_loopw [52] (fun v52 wr2 => v52 = .int .i64 0 ∧ wr2 = wr) (fun _ _ => 0)
      case atStart => exact ⟨rfl, rfl⟩
      case round =>
        obtain ⟨rfl, rfl⟩ := hrel
        go_upto_region 17 with fail
        go_loopw [71] (fun v71 wr2 => v71 = .int .i64 0 ∧ wr2 = wr) (fun _ _ => 0)
        case atStart => exact ⟨rfl, rfl⟩
        case round =>
          obtain ⟨rfl, rfl⟩ := hrel
          go_upto_region 25 with fail
          go_loopw [101] (fun v101 wr2 => v101 = .int .i64 0 ∧ wr2 = wr) (fun _ _ => 0)
          case atStart => exact ⟨rfl, rfl⟩
          case round =>
            obtain ⟨rfl, rfl⟩ := hrel
            go_upto_region 33 with fail
            go_loopw [131] (fun v131 wr2 => v131 = .int .i64 0 ∧ wr2 = wr) (fun _ _ => 0)
            case atStart => exact ⟨rfl, rfl⟩
            case round =>
              obtain ⟨rfl, rfl⟩ := hrel
              go_wp2_with fail
              go_ret2
              refine ⟨rfl, D, rfl, HD.out, HC.out, ?_⟩
              exact Hr.sub (by with_reducible repeat constructor)
end Go.Proofs.YtgnmnaclndkmdaaGreatDoor
namespace Go.Proofs.YtgnmnaclndkmdaaGreatDoor
open Go.RowKit

set_option maxRecDepth 100000 in
set_option maxHeartbeats 8000000 in
theorem resolveViewL_s {w : World} {l : List HA} {zs pb nv : Nat} {gn cn : Nat} {Vv sv cv : Value} {oA iA aA rA po : Option Addr} {on oc iN ic aN ac rN rc : Nat} {ds : Array Value} {vxs : List Value} (x : Vn)
    (hv : vxs ≠ []) (h7 : ds[7]? = some Vv) (h23 : ds[23]? = some (.slice (some ⟨gn, 0, none⟩) nv cn)) (hn : 0 < nv) (hnv : nv ≤ 1000000) (hnx : ∀ (j : Nat) (u : Value), (nc0 x.left x.right (.slice oA on oc) (.slice iA iN ic) (.slice aA aN ac) (.pointer po) (.slice rA rN rc)).toList[j]? = some u → w.cell? ⟨gn, j, none⟩ = some u)
    (H : HS w (boxA zs #[sv, cv] 137 :: rowA 9 1 sv 0 [] :: rowA 26 1 cv 0 [] :: boxA pb ds 58 :: rowA 187 9 Vv nv vxs :: l)) :
    Calls Tryz.prog 73 #[.pointer (some ⟨pb, 6, none⟩), .pointer (some ⟨zs, 0, none⟩), .int .i64 0] w fun e w' => e = .returned (.tuple #[.int .i64 x.left.pos, .int .i64 7]) ∧ HS w' l := by
  obtain ⟨Av, kv, rfl⟩ := H.slice (v := Vv) (by with_reducible repeat constructor)
  obtain ⟨gv, rfl, hgv, -, -⟩ := H.rowAt (A := Av) (by with_reducible repeat constructor) hv
  have n0 := hnx 0 _ rfl
  have n1 := hnx 1 _ rfl
  have n2 := hnx 2 _ rfl
  have n3 := hnx 3 _ rfl
  have n4 := hnx 4 _ rfl
  have n5 := hnx 5 _ rfl
  have n6 := hnx 6 _ rfl
  have n7 := hnx 7 _ rfl
  have n8 := hnx 8 _ rfl
  have n9 := hnx 9 _ rfl
  have n10 := hnx 10 _ rfl
  have n11 := hnx 11 _ rfl
  have n12 := hnx 12 _ rfl
  have dB := HS.box (z := pb) H (by with_reducible repeat constructor); have dL := Box.lt dB; obtain ⟨hcB, hfB⟩ := Box.cells dB; have d7 := hcB 7; have df7 := hfB 7; have d23 := hcB 23; have df23 := hfB 23; clear hcB hfB
  rw [h7] at d7
  rw [h23] at d23
  have hk : (0 : Int) < (nv : Int) := by omega
  have HA := (H.alloc (nc0 x.left x.right (.slice oA on oc) (.slice iA iN ic) (.slice aA aN ac) (.pointer po) (.slice rA rN rc)) 191).drew
  have hF := find_c (sc := []) x.left (by simp) (HA.sub (l' := boxA zs #[sv, cv] 137 :: rowA 9 1 sv ([] : Sq).length (([] : Sq).map fun x => strV x.1) :: rowA 26 1 cv ([] : Sq).length (([] : Sq).map fun x => x.2.1) :: []) (by simp only [List.length_nil, List.map_nil]; exact (by with_reducible repeat constructor)))
  unfold nc0 at HA hF
  rw [show fdR [] x.left = (.slice none 0 0, x.left.pos, 7) from rfl] at hF
  unfold FindPost at hF
  dsimp only at hF
  clear hnx
  go_enter Tryz.func73, Tryz.ntmps73
  go_upto_region 1 with fail
  (refine wp_region_G 16 (fun w' => w'.cell? ⟨pb, 7, none⟩ = some (.slice (some ⟨gv, 0, none⟩) nv kv) ∧ w'.cell? ⟨pb, 23, none⟩ = some (.slice (some ⟨gn, 0, none⟩) nv cn) ∧ w'.cell? ⟨gn, 0, none⟩ = some (.int .i64 x.left.kind) ∧ w'.cell? ⟨gn, 1, none⟩ = some (.string ⟨x.left.text.toArray⟩) ∧ w'.cell? ⟨gn, 2, none⟩ = some (.int .i64 x.left.int) ∧ w'.cell? ⟨gn, 3, none⟩ = some (.int .i64 x.left.pos) ∧ w'.cell? ⟨gn, 4, none⟩ = some (.int .i64 x.right.kind) ∧ w'.cell? ⟨gn, 5, none⟩ = some (.string ⟨x.right.text.toArray⟩) ∧ w'.cell? ⟨gn, 6, none⟩ = some (.int .i64 x.right.int) ∧ w'.cell? ⟨gn, 7, none⟩ = some (.int .i64 x.right.pos) ∧ w'.cell? ⟨gn, 8, none⟩ = some (.slice oA on oc) ∧ w'.cell? ⟨gn, 9, none⟩ = some (.slice iA iN ic) ∧ w'.cell? ⟨gn, 10, none⟩ = some (.slice aA aN ac) ∧ w'.cell? ⟨gn, 11, none⟩ = some (.pointer po) ∧ w'.cell? ⟨gn, 12, none⟩ = some (.slice rA rN rc)) (by kernel_rfl) ?_ (fun hHeld => ?_); (focus (try dsimp only); go_keep))
  (refine GG.tk 0 (v := ?_) rfl (by kernel_rfl) (fun _ _ _ h => h) (by rfl) (by assumption) ?_ ?_; rotate_left; (focus (intro w h; (try dsimp only at h); go_simp; (try with_reducible rfl))); (try simp only [Act.put, qqa]); refine GG.tk 1 (v := ?_) rfl (by kernel_rfl) (fun _ _ _ h => h) (by rfl) (by assumption) ?_ ?_; rotate_left; (focus (intro w h; (try dsimp only at h); go_simp; (try with_reducible rfl))); (try simp only [Act.put]); refine GG.tk 2 (v := ?_) rfl (by kernel_rfl) (fun _ _ _ h => h) (by rfl) (by assumption) ?_ ?_; rotate_left; (focus (intro w h; (try dsimp only at h); go_simp; (try with_reducible rfl))); (try simp only [Act.put]); refine GG.tk 3 (v := ?_) rfl (by kernel_rfl) (fun _ _ _ h => h) (by rfl) (by assumption) ?_ ?_; rotate_left; (focus (intro w h; (try dsimp only at h); go_simp; (try with_reducible rfl))); (try simp only [Act.put]); refine GG.tk 4 (v := ?_) rfl (by kernel_rfl) (fun _ _ _ h => h) (by rfl) (by assumption) ?_ ?_; rotate_left; (focus (intro w h; (try dsimp only at h); go_simp; (try with_reducible rfl))); (try simp only [Act.put]); refine GG.tk 5 (v := ?_) rfl (by kernel_rfl) (fun _ _ _ h => h) (by rfl) (by assumption) ?_ ?_; rotate_left; (focus (intro w h; (try dsimp only at h); go_simp; (try with_reducible rfl))); (try simp only [Act.put]); refine GG.tk 6 (v := ?_) rfl (by kernel_rfl) (fun _ _ _ h => h) (by rfl) (by assumption) ?_ ?_; rotate_left; (focus (intro w h; (try dsimp only at h); go_simp; (try with_reducible rfl))); (try simp only [Act.put]); refine GG.tk 7 (v := ?_) rfl (by kernel_rfl) (fun _ _ _ h => h) (by rfl) (by assumption) ?_ ?_; rotate_left; (focus (intro w h; (try dsimp only at h); go_simp; (try with_reducible rfl))); (try simp only [Act.put]); refine GG.tk 8 (v := ?_) rfl (by kernel_rfl) (fun _ _ _ h => h) (by rfl) (by assumption) ?_ ?_; rotate_left; (focus (intro w h; (try dsimp only at h); go_simp; (try with_reducible rfl))); (try simp only [Act.put]); refine GG.tk 9 (v := ?_) rfl (by kernel_rfl) (fun _ _ _ h => h) (by rfl) (by assumption) ?_ ?_; rotate_left; (focus (intro w h; (try dsimp only at h); go_simp; (try with_reducible rfl))); (try simp only [Act.put]); refine GG.tk 10 (v := ?_) rfl (by kernel_rfl) (fun _ _ _ h => h) (by rfl) (by assumption) ?_ ?_; rotate_left; (focus (intro w h; (try dsimp only at h); go_simp; (try with_reducible rfl))); (try simp only [Act.put]); refine GG.tk 11 (v := ?_) rfl (by kernel_rfl) (fun _ _ _ h => h) (by rfl) (by assumption) ?_ ?_; rotate_left; (focus (intro w h; (try dsimp only at h); go_simp; (try with_reducible rfl))); (try simp only [Act.put]); refine GG.tk 12 (v := ?_) rfl (by kernel_rfl) (fun _ _ _ h => h) (by rfl) (by assumption) ?_ ?_; rotate_left; (focus (intro w h; (try dsimp only at h); go_simp; (try with_reducible rfl))); (try simp only [Act.put]); refine GG.tk 13 (v := ?_) rfl (by kernel_rfl) (fun _ _ _ h => h) (by rfl) (by assumption) ?_ ?_; rotate_left; (focus (intro w h; (try dsimp only at h); go_simp; (try with_reducible rfl))); (try simp only [Act.put]))
  (refine GG.one 14 (by kernel_rfl) (by decide) rfl (fun K hK => ?_); go_simp; refine hK.out _ _ ?_ (fun hHeld => ?_); (focus (try dsimp only); go_keep); clear hK K; (try simp only [Act.put, qqa, qqb, qqc]))
  (refine GG.tk 15 (v := ?_) rfl (by kernel_rfl) (fun _ _ _ h => h) (by rfl) (by assumption) ?_ ?_; rotate_left; (focus (intro w h; (try dsimp only at h); go_simp; (try with_reducible rfl))); (try simp only [Act.put, qqa]))
  (refine GG.last (by kernel_rfl) (by kernel_rfl) rfl (fun K hK => ?_); go_simp; refine hK.out _ _ ?_; clear hK K)
  clear n0 n1 n2 n3 n4 n5 n6 n7 n8 n9 n10 n11 n12 d7 d23 df7 df23 dB dL H hHeld
  have gB := HS.box (z := w.heap.size) HA (by with_reducible repeat constructor); have gL := Box.lt gB; obtain ⟨hcB, hfB⟩ := Box.cells gB; have g0 := hcB 0; have gf0 := hfB 0; have g1 := hcB 1; have gf1 := hfB 1; have g2 := hcB 2; have gf2 := hfB 2; have g3 := hcB 3; have gf3 := hfB 3; clear hcB hfB
  go_wp2_with (go_at_call 114; (with_reducible refine hF.mono ?_); rintro e w4 ⟨rfl, hb4⟩; have H4 := HA.below hb4)
  go_ret2
  exact ⟨rfl, H4.sub (by with_reducible repeat constructor)⟩
set_option maxRecDepth 100000 in
set_option maxHeartbeats 8000000 in
theorem resolveV_s {w : World} {l : List HA} {pb nv k1 : Nat} {gn cn : Nat} {A1 : Option Addr} {Vv : Value} {oA iA aA rA po : Option Addr} {on oc iN ic aN ac rN rc : Nat} {ds : Array Value} {vxs nxs : List Value} (x : Vn)
    (hv : vxs ≠ []) (h6 : ds[6]? = some (.slice A1 0 k1)) (h7 : ds[7]? = some Vv) (h23 : ds[23]? = some (.slice (some ⟨gn, 0, none⟩) nv cn)) (hn : 0 < nv) (hnv : nv ≤ 1000000) (hnx : ∀ (j : Nat) (u : Value), (nc0 x.left x.right (.slice oA on oc) (.slice iA iN ic) (.slice aA aN ac) (.pointer po) (.slice rA rN rc)).toList[j]? = some u → nxs[j]? = some u)
    (H : HS w (boxA pb ds 58 :: rowA 187 9 Vv nv vxs :: rowA 191 13 (.slice (some ⟨gn, 0, none⟩) nv cn) nv nxs :: l)) :
    Calls Tryz.prog 43 #[.pointer (some ⟨pb, 6, none⟩)] w fun e w' => e = .returned (.tuple #[.int .i64 x.left.pos, .int .i64 7]) ∧ HS w' l := by
  obtain ⟨Av, kv, rfl⟩ := H.slice (v := Vv) (by with_reducible repeat constructor)
  have H1 := H.alloc #[.slice none 0 0, .slice none 0 0] 137
  have dB := HS.box (z := pb) H1 (by with_reducible repeat constructor); have dL := Box.lt dB; obtain ⟨hcB, hfB⟩ := Box.cells dB; have d6 := hcB 6; have df6 := hfB 6; have d7 := hcB 7; have df7 := hfB 7; clear hcB hfB
  rw [h6] at d6
  rw [h7] at d7
  have hk : (0 : Int) < (nv : Int) := by omega
  have Hw := (H1.rowNil 9 1).rowNil 26 1
  have hnx2 : ∀ (j : Nat) (u : Value), (nc0 x.left x.right (.slice oA on oc) (.slice iA iN ic) (.slice aA aN ac) (.pointer po) (.slice rA rN rc)).toList[j]? = some u → (w.alloc (.cells #[.slice none 0 0, .slice none 0 0] 137)).cell? ⟨gn, j, none⟩ = some u := fun j u hu => by
    obtain ⟨g, e, -, hc, -⟩ := Hw.rowAt (A := some ⟨gn, 0, none⟩) (n := nv) (c := cn) (xs := nxs) (by with_reducible repeat constructor) (fun e => by have := hnx 0 _ rfl; rw [e] at this; cases this)
    injection e with e
    injection e with e _ _
    subst e
    exact hc _ _ (hnx j u hu)
  have hR := resolveViewL_s (l := l) (zs := w.heap.size) x hv h7 h23 hn hnv hnx2 (Hw.sub (by with_reducible repeat constructor))
  clear H H1 Hw hnx hnx2
  go_enter Tryz.func43, Tryz.ntmps43
  go_upto_region 3 with fail
  go_loopw [32] (fun v32 wr => v32 = .int .i64 0 ∧ wr = w.alloc (.cells #[.slice none 0 0, .slice none 0 0] 137)) (fun _ _ => 0)
  case atStart => exact ⟨rfl, rfl⟩
  case round =>
    obtain ⟨rfl, rfl⟩ := hrel
    go_upto_region 10 with fail
    go_loopw [52] (fun v52 wr => v52 = .int .i64 0 ∧ wr = w.alloc (.cells #[.slice none 0 0, .slice none 0 0] 137)) (fun _ _ => 0)
    case atStart => exact ⟨rfl, rfl⟩
    case round =>
      obtain ⟨rfl, rfl⟩ := hrel
      go_wp2_with (go_at_call 73; (with_reducible refine hR.mono ?_); rintro e w4 ⟨rfl, H4⟩)
      go_ret2
      exact ⟨rfl, H4⟩
end Go.Proofs.YtgnmnaclndkmdaaGreatDoor
namespace Go.Proofs.YtgnmnaclndkmdaaGreatDoor
open Go.RowKit Go.Maps Go.WideMaps

theorem keyS : Keyed Tryz.prog 9 := string_keyed Tryz.underlying9
theorem zeroB (w : World) : (zeroValue 4).run Tryz.prog w = .ok (.bool false) w := by kernel_rfl
theorem zeroI (w : World) : (zeroValue 3).run Tryz.prog w = .ok (.int .i64 0) w := by kernel_rfl
abbrev Dw := DataW Unit
def keyL (s : Bs) : Lit := .string s
theorem keyL_is (s : Bs) : WideAt.IsKeyLit (keyL s) := trivial
theorem key_of {s : Bs} (h : s.length ≤ maxLen) : keyOf Tryz.prog 9 (.string ⟨s.toArray⟩) = some (keyL s) := (keyOf_string_mk Tryz.underlying9 (s := ⟨s.toArray⟩) (by show s.toArray.size ≤ _; simpa using h)).trans (by simp [keyL])
theorem keyL_ne {a b : Bs} (h : a ≠ b) : keyL a ≠ keyL b := fun e => h (by injection e)
/-- A map from strings to Booleans that is true at the strings l. -/
def mapB (z : Nat) (l : List Bs) : HA where
  holds w S := (∃ D : Dw, w.ownsMap Tryz.prog 9 (plainElem Tryz.prog 4) z l.length D ∧ ∀ s, D.atKey (keyL s) (.lit (.bool false)) = .lit (.bool (l.contains s))) ∧ S = (· = z)
  keep := by
    rintro w w' S ⟨⟨D, ⟨es, clock, hb, r⟩, h⟩, rfl⟩ g
    exact ⟨⟨D, ⟨es, clock, (g.block z rfl).trans hb, r⟩, h⟩, rfl⟩
  lt := by
    rintro w S ⟨⟨D, h, -⟩, rfl⟩ k rfl
    exact h.lt
/-- A map from strings to numbers: g tells the number. -/
def mapI (z n : Nat) (g : Bs → Option Nat) : HA where
  holds w S := (∃ D : Dw, w.ownsMap Tryz.prog 9 (plainElem Tryz.prog 3) z n D ∧ (∀ s, Maps.has D (keyL s) = (g s).isSome) ∧ ∀ s, D.atKey (keyL s) (.lit (.int .i64 0)) = .lit (.int .i64 (((g s).getD 0 : Nat) : Int))) ∧ S = (· = z)
  keep := by
    rintro w w' S ⟨⟨D, ⟨es, clock, hb, r⟩, h⟩, rfl⟩ g
    exact ⟨⟨D, ⟨es, clock, (g.block z rfl).trans hb, r⟩, h⟩, rfl⟩
  lt := by
    rintro w S ⟨⟨D, h, -⟩, rfl⟩ k rfl
    exact h.lt
section
variable {w : World} {l l' : List HA} {z n : Nat} {q : List Bs} {g : Bs → Option Nat}
set_option maxRecDepth 100000 in
theorem HS.mapLook (H : HS w l) (hp : Pick l (mapB z q) l') {s : Bs} (hs : s.length ≤ maxLen) : (Instr.lookup 202 (.map (some z)) (.string ⟨s.toArray⟩) false).run Tryz.prog w = .ok (.bool (q.contains s)) w := by
  obtain ⟨S, ⟨D, h, h2⟩, -⟩ := (H.pick hp).head
  obtain ⟨v, ps, hrun, hv⟩ := h.lookup keyS Tryz.underlying202 (zeroB w) (plainElem_bool Tryz.underlying4 false) (key_of hs)
  rw [h2] at hv
  have : v = .bool (q.contains s) := by
    unfold plainElem at hv
    rw [Tryz.underlying4] at hv
    cases v <;> simp at hv ⊢
    exact hv.1
  rw [← this]
  exact hrun
set_option maxRecDepth 100000 in
theorem HS.mapLookI (H : HS w l) (hp : Pick l (mapI z n g) l') {s : Bs} (hs : s.length ≤ maxLen) : (Instr.lookup 203 (.map (some z)) (.string ⟨s.toArray⟩) true).run Tryz.prog w = .ok (.tuple #[.int .i64 (((g s).getD 0 : Nat) : Int), .bool (g s).isSome]) w := by
  obtain ⟨S, ⟨D, h, h1, h2⟩, -⟩ := (H.pick hp).head
  obtain ⟨v, ps, hrun, hv⟩ := h.look_ok keyS Tryz.underlying203 (zeroI w) (plainElem_int Tryz.underlying3 (by decide)) (key_of hs)
  rw [h2] at hv
  obtain ⟨a, rfl, e, -⟩ := plainElem_int_inv Tryz.underlying3 hv
  simp only [Prod.mk.injEq, DataW.lit.injEq, Lit.int.injEq, true_and] at e
  rw [← h1, e.1]
  exact hrun
end
section
variable {w : World} {l l' : List HA} {z n : Nat} {q : List Bs} {g : Bs → Option Nat}
set_option maxRecDepth 100000 in
theorem HS.mapPut (H : HS w l) (hp : Pick l (mapB z q) l') {s : Bs} (hs : s.length ≤ maxLen) (hq : q.length < maxLen) : ∃ w', (Instr.mapUpdate 202 (.map (some z)) (.string ⟨s.toArray⟩) (.bool true)).run Tryz.prog w = .ok () w' ∧ HS w' (mapB z (q ++ [s]) :: l') := by
  obtain ⟨S, ⟨⟨D, h, h2⟩, rfl⟩, h3⟩ := (H.pick hp).go
  obtain ⟨w', hr, ho, ht⟩ := h.store keyS Tryz.underlying202 hq (key_of hs) (plainElem_bool Tryz.underlying4 true)
  refine ⟨w', hr, h3 _ _ _ ((PFr.refl _ _).grown ht.grown fun k hk _ => (by injection hk with hk; exact hk.symm)) ⟨⟨_, by rw [List.length_append]; exact ho, fun t => ?_⟩, rfl⟩ fun k hk => .inl hk⟩
  by_cases e : t = s
  · subst e
    rw [Maps.atKey_put_same h.isMap (keyL_is _)]
    simp
  · rw [Maps.atKey_put_other (keyL_ne e), h2]
    simp [e]
set_option maxRecDepth 100000 in
theorem HS.mapPutI (H : HS w l) (hp : Pick l (mapI z n g) l') {s : Bs} (hs : s.length ≤ maxLen) (hn : n < maxLen) (m : Nat) (hm : m ≤ 1000000) : ∃ w', (Instr.mapUpdate 203 (.map (some z)) (.string ⟨s.toArray⟩) (.int .i64 (m : Int))).run Tryz.prog w = .ok () w' ∧ HS w' (mapI z (n + 1) (fun t => if t = s then some m else g t) :: l') := by
  obtain ⟨S, ⟨⟨D, h, h1, h2⟩, rfl⟩, h3⟩ := (H.pick hp).go
  have hw : (Lit.int .i64 (m : Int)).wf = true := by
    simp [Lit.wf, IntKind.min, IntKind.max, IntKind.signed, IntKind.bits]
    omega
  obtain ⟨w', hr, ho, ht⟩ := h.store keyS Tryz.underlying203 hn (key_of hs) (plainElem_int Tryz.underlying3 hw)
  refine ⟨w', hr, h3 _ _ _ ((PFr.refl _ _).grown ht.grown fun k hk _ => (by injection hk with hk; exact hk.symm)) ⟨⟨_, ho, fun t => ?_, fun t => ?_⟩, rfl⟩ fun k hk => .inl hk⟩
  · by_cases e : t = s
    · subst e
      rw [Maps.has_put_same h.isMap (keyL_is _)]
      simp
    · rw [Maps.has_put_other (keyL_ne e), h1]
      simp [e]
  · by_cases e : t = s
    · subst e
      rw [Maps.atKey_put_same h.isMap (keyL_is _)]
      simp
    · rw [Maps.atKey_put_other (keyL_ne e), h2]
      simp [e]
theorem HS.mapNew (H : HS w l) : HS (w.alloc (.map #[] 0)) (mapB w.heap.size [] :: l) :=
  H.new ((Below.refl _ _).alloc (Nat.le_refl _) _) (S' := (· = w.heap.size)) ⟨⟨_, World.ownsMap_made w _ _ _, fun _ => rfl⟩, rfl⟩ fun k hk => (by rw [hk]; exact Nat.le_refl _)
theorem HS.mapNewI (H : HS w l) : HS (w.alloc (.map #[] 0)) (mapI w.heap.size 0 (fun _ => none) :: l) :=
  H.new ((Below.refl _ _).alloc (Nat.le_refl _) _) (S' := (· = w.heap.size)) ⟨⟨_, World.ownsMap_made w _ _ _, fun _ => rfl, fun _ => rfl⟩, rfl⟩ fun k hk => (by rw [hk]; exact Nat.le_refl _)
end
end Go.Proofs.YtgnmnaclndkmdaaGreatDoor
