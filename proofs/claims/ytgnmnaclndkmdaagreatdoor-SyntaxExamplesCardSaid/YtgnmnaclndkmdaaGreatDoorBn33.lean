/- The look-up of the owners of a table: resolveTable. At most 1000000 columns, owners and tables. Contract of resolveTable. At most 1000000 columns, owners and tables. What a source of at most 100000 tokens declares is small, and its expressions name references that they have. Plain Lean, no program in sight. -/
import Derived.Test.YtgnmnaclndkmdaaGreatDoorBn32
import Derived.Test.YtgnmnaclndkmdaaGreatDoorBn28
import Derived.Test.YtgnmnaclndkmdaaGreatDoorBn10
namespace Go.Proofs.YtgnmnaclndkmdaaGreatDoor
open Go.RowKit

section
variable {α β : Type} {f : α → Except Er β}
theorem mapE_snoc : ∀ {l : List α} {m : List β} {a : α} {b : β}, mapE f l = .ok m → f a = .ok b → mapE f (l ++ [a]) = .ok (m ++ [b])
  | [], m, a, b, h, h2 => by
    injection h with h
    subst h
    simp [mapE, h2]
  | x :: l, m, a, b, h, h2 => by
    rw [mapE] at h
    rw [List.cons_append, mapE]
    cases hx : f x with
    | error p => rw [hx] at h; cases h
    | ok y =>
      rw [hx] at h
      cases hl : mapE f l with
      | error p => rw [hl] at h; cases h
      | ok z =>
        rw [hl] at h
        injection h with h
        subst h
        rw [mapE_snoc hl h2]
        rfl
theorem mapE_err : ∀ {l r : List α} {m : List β} {a : α} {p : Er}, mapE f l = .ok m → f a = .error p → mapE f (l ++ a :: r) = .error p
  | [], r, m, a, p, h, h2 => by simp [mapE, h2]
  | x :: l, r, m, a, p, h, h2 => by
    rw [mapE] at h
    rw [List.cons_append, mapE]
    cases hx : f x with
    | error p => rw [hx] at h; cases h
    | ok y =>
      rw [hx] at h
      cases hl : mapE f l with
      | error p => rw [hl] at h; cases h
      | ok z => rw [mapE_err hl h2]
theorem mapE_len : ∀ {l : List α} {m : List β}, mapE f l = .ok m → m.length = l.length
  | [], m, h => by
    injection h with h
    subst h
    rfl
  | x :: l, m, h => by
    rw [mapE] at h
    cases hx : f x with
    | error p => rw [hx] at h; cases h
    | ok y =>
      rw [hx] at h
      cases hl : mapE f l with
      | error p => rw [hl] at h; cases h
      | ok z =>
        rw [hl] at h
        injection h with h
        subst h
        rw [List.length_cons, List.length_cons, mapE_len hl]
theorem mapE_step {l : List α} {m : List β} {i : Nat} {a : α} {b : β} (h : mapE f (l.take i) = .ok m) (ha : l[i]? = some a) (hb : f a = .ok b) : mapE f (l.take (i + 1)) = .ok (m ++ [b]) := by
  rw [List.take_add_one, ha]
  exact mapE_snoc h hb
theorem mapE_stop {l : List α} {m : List β} {i : Nat} {a : α} {p : Er} (h : mapE f (l.take i) = .ok m) (ha : l[i]? = some a) (hb : f a = .error p) : mapE f l = .error p := by
  obtain ⟨hi, e⟩ := List.getElem?_eq_some_iff.1 ha
  rw [← List.take_append_drop i l, List.drop_eq_getElem_cons hi, e]
  exact mapE_err h hb
end
theorem pick_mem : ∀ {l : List HA} {A : HA}, A ∈ l → ∃ l', Pick l A l'
  | B :: l, A, h => by
    rcases List.mem_cons.1 h with rfl | h
    · exact ⟨_, .here⟩
    · obtain ⟨l', h'⟩ := pick_mem h
      exact ⟨_, .there h'⟩
theorem pick_app : ∀ {l l' m : List HA} {A : HA}, Pick l A l' → Pick (l ++ m) A (l' ++ m)
  | _, _, _, _, .here => .here
  | _, _, _, _, .there h => .there (pick_app h)
section
variable {w : World} {l l' : List HA}
theorem HS.mem {m : List HA} (H : HS w l) (hp : Pick l (allA m) l') {A : HA} (h : A ∈ m) : ∃ S, A.holds w S := by
  obtain ⟨m', h'⟩ := pick_mem h
  exact ((H.all hp).pick (pick_app h')).head
/-- The cells of a row that isn't empty. -/
theorem own_at {e : TypeId} {size n c : Nat} {A : Option Addr} {xs : List Value} (h : w.ownsRow 0 e size (.slice A n c) n xs) (hne : xs ≠ []) : ∃ g, A = some ⟨g, 0, none⟩ ∧ g < w.heap.size ∧ (∀ j u, xs[j]? = some u → w.cell? ⟨g, j, none⟩ = some u) ∧ ∀ j, w.frozen? ⟨g, j, none⟩ = false := by
  obtain ⟨b, off, e1, hb, hc⟩ := Rd.of_own h hne
  rcases h.2 with ⟨h1, rfl⟩ | ⟨g, cap, cur, h1, h2, h3, h4, h5, h6, h7⟩
  · exact absurd (List.eq_nil_of_length_eq_zero (by simpa using h.1)) hne
  · injection h1 with h1 _ _
    subst h1
    injection e1 with e1
    injection e1 with e1 e2 _
    subst e1 e2
    refine ⟨g, rfl, hb, fun j u hu => ?_, fun j => by simp [World.frozen?, h3]⟩
    have := hc j u hu
    rw [Nat.zero_add] at this
    exact this
theorem HS.rowAt {e : TypeId} {size n c : Nat} {A : Option Addr} {xs : List Value} (H : HS w l) (hp : Pick l (rowA e size (.slice A n c) n xs) l') (hne : xs ≠ []) : ∃ g, A = some ⟨g, 0, none⟩ ∧ g < w.heap.size ∧ (∀ j u, xs[j]? = some u → w.cell? ⟨g, j, none⟩ = some u) ∧ ∀ j, w.frozen? ⟨g, j, none⟩ = false := own_at (H.row hp) hne
theorem HS.rowB {n c : Nat} {A : Option Addr} {ws : List Bs} (H : HS w l) (hp : Pick l (rowA 9 1 (.slice A n c) n (ws.map strV)) l') (hn : ws.length = n) : RowB w w.heap.size A n ws := RowOf.of_own (by rw [flat_str]; exact H.row hp) hn
end
theorem HS.pushA {w : World} {l l' l'' m : List HA} {A : HA} (H : HS w l) (h1 : Pick l A l') (h2 : Pick l' (allA m) l'') : HS w (allA (m ++ [A]) :: l'') := allA_snoc (((H.pick h1).pick (.there h2)).pick (.there .here))
theorem HS.namesPush {w : World} {l l' l'' : List HA} {q : List (Value × List Bs)} {v : Value} {names : List Bs} {n : Nat} (hn : names.length = n) (H : HS w l) (h1 : Pick l (rowA 9 1 v n (names.map strV)) l') (h2 : Pick l' (namesA q) l'') : HS w (namesA (q ++ [(v, names)]) :: l'') := HS.namesAdd hn (((H.pick h1).pick (.there h2)).pick (.there .here))
/-- Columns, each with its slice of owners. -/
abbrev Co := Col × Value
def coC (l : List Co) : List Value := l.flatMap fun x => (colC x.1 x.2).toList
def coA (x : Co) : HA := rowA 3 1 x.2 x.1.owners.length (intV x.1.owners)
def co0 (c : Col) : Co := (c, .slice none 0 0)
def owned (c : Col) (o : List Int) : Col := { c with owners := o.foldl addL [] }
theorem coC_0 (l : List Col) : coC (l.map co0) = colsC l := by
  unfold coC colsC colL co0
  rw [List.flatMap_map]
theorem coC_len : ∀ (l : List Co), (coC l).length = l.length * 7
  | [] => rfl
  | x :: l => by
    have := coC_len l
    unfold coC at this ⊢
    rw [List.flatMap_cons, List.length_append, this, List.length_cons]
    show 7 + _ = _
    omega
theorem coC_set (X r : List Co) (c : Col) (o : List Int) (u v : Value) : (coC (X ++ (c, u) :: r)).set (X.length * 7 + 4) v = coC (X ++ (owned c o, v) :: r) := by
  have h := coC_len X
  unfold coC at h ⊢
  rw [List.flatMap_append, List.flatMap_append, List.set_append_right _ _ (by rw [h]; omega), h, Nat.add_sub_cancel_left, List.flatMap_cons, List.flatMap_cons]
  rfl
theorem coC_at {l : List Co} {i : Nat} {x : Co} (h : l[i]? = some x) (j : Nat) (u : Value) (hu : (colC x.1 x.2).toList[j]? = some u) : (coC l)[i * 7 + j]? = some u := flatMap_at 7 (fun _ => rfl) l i j x u h hu
/-- The columns of a table so far, with what is still to come. -/
structure ColsAt (cols : List Col) (ow : List (List Tk)) (names : List Bs) (i : Nat) (X : List Co) (ms : List (List Int)) : Prop where
  e : mapE (fun l => mapE (findCol names) l) (ow.take i) = .ok ms
  x : X.map Prod.fst = ((cols.take i).zip ms).map fun x => owned x.1 x.2
  n : X.length = i
theorem ColsAt.nil {cols : List Col} {ow : List (List Tk)} {names : List Bs} : ColsAt cols ow names 0 [] [] := ⟨rfl, rfl, rfl⟩
theorem ColsAt.snoc {cols : List Col} {ow : List (List Tk)} {names : List Bs} {i : Nat} {X : List Co} {ms : List (List Int)} {c : Col} {o : List Tk} {m : List Int} {v : Value} (h : ColsAt cols ow names i X ms) (hc : cols[i]? = some c) (ho : ow[i]? = some o) (hm : mapE (findCol names) o = .ok m) : ColsAt cols ow names (i + 1) (X ++ [(owned c m, v)]) (ms ++ [m]) := by
  refine ⟨mapE_step h.e ho hm, ?_, by simp [h.n]⟩
  have h1 := mapE_len h.e
  have h2 := (List.getElem?_eq_some_iff.1 hc).1
  have h3 := (List.getElem?_eq_some_iff.1 ho).1
  rw [List.take_add_one, hc, List.map_append, h.x, Option.toList_some, zip_snoc (by rw [h1]; simp; omega), List.map_append]
  rfl
/-- What resolveTable leaves. -/
def RtbPost (zs sn pb : Nat) (xs ys : List Value) (q : List (Value × List Bs)) (ds : Array Value) (Tv Ov : Value) (nt no : Nat) (txs oxs : List Value) (x : Tab × List (List Tk) × Tq) (l : List HA) : Except Er Tab → Ending → World → Prop
  | .error p, e, w => e = .returned (.tuple #[.int .i64 p.1, .int .i64 p.2]) ∧ HS w l
  | .ok t, e, w => e = .returned (.tuple #[.int .i64 0, .int .i64 0]) ∧ ∃ (X : List Co) (sv cv nv : Value), X.map Prod.fst = t.cols ∧
    HS w (boxA zs #[sv, cv] 137 :: rowA 9 1 sv (sn + 1) (xs ++ [strV x.1.name]) :: rowA 26 1 cv (sn + 1) (ys ++ [nv]) :: namesA (q ++ [(nv, x.1.cols.map Col.name)]) :: boxA pb ds 58 :: rowA 77 4 Tv nt txs :: rowA 179 1 Ov no oxs :: rowA 80 7 x.2.2.cv x.1.cols.length (coC X) :: allA (X.map coA) :: l)
theorem fcR_ok {ws : List Bs} {t : Tk} {k : Int} (h : findCol ws t = .ok k) : fcR ws t = (k, 0, 0) := by
  unfold findCol at h
  unfold fcR
  split at h
  · cases h
  · injection h with h
    subst h
    rename_i h2
    rw [h2]
theorem fcR_error {ws : List Bs} {t : Tk} {p : Er} (h : findCol ws t = .error p) : fcR ws t = (0, p.1, p.2) ∧ p.2 = 3 := by
  unfold findCol at h
  unfold fcR
  split at h
  · injection h with h
    subst h
    rename_i h2
    rw [h2]
    exact ⟨rfl, rfl⟩
  · cases h
end Go.Proofs.YtgnmnaclndkmdaaGreatDoor
namespace Go.Proofs.YtgnmnaclndkmdaaGreatDoor
open Go.RowKit

set_option maxRecDepth 100000 in
set_option maxHeartbeats 8000000 in
theorem resolveTable_s {w : World} {l : List HA} {zs sn pb k nt no : Nat} {sv cv Tv Ov : Value} {xs ys txs oxs : List Value} {q : List (Value × List Bs)} {ds : Array Value} (x : Tab × List (List Tk) × Tq)
    (hwf : WfT x.1 x.2.1) (hok : x.2.2.tq.map Prod.fst = x.2.1) (h6 : ds[6]? = some Tv) (h22 : ds[22]? = some Ov) (htx : ∀ j u, (tabR x)[j]? = some u → txs[k * 4 + j]? = some u) (hox : oxs[k]? = some x.2.2.ov)
    (hkt : k < nt) (hko : k < no) (_hnt : nt ≤ 1000000) (_hno : no ≤ 1000000) (hcl : x.1.cols.length ≤ 1000000) (hol : ∀ o ∈ x.2.1, o.length ≤ 1000000) (hsn : sn ≤ 1000000)
    (H : HS w (boxA zs #[sv, cv] 137 :: rowA 9 1 sv sn xs :: rowA 26 1 cv sn ys :: namesA q :: boxA pb ds 58 :: rowA 77 4 Tv nt txs :: rowA 179 1 Ov no oxs :: (x.2.2.parts x.1 ++ l))) :
    Calls Tryz.prog 72 #[.pointer (some ⟨pb, 6, none⟩), .pointer (some ⟨zs, 0, none⟩), .int .i64 (k : Int)] w (RtbPost zs sn pb xs ys q ds Tv Ov nt no txs oxs x l (resTable x.1 x.2.1)) := by
  obtain ⟨R, hR⟩ : ∃ R, resTable x.1 x.2.1 = R := ⟨_, rfl⟩
  rw [hR]
  have HR := Lib.hid hR
  clear hR
  unfold Tq.parts at H
  simp only [List.cons_append, List.nil_append] at H
  rw [← coC_0] at H
  obtain ⟨At, ct, rfl⟩ := H.slice (v := Tv) (by with_reducible repeat constructor)
  obtain ⟨Ao, co, rfl⟩ := H.slice (v := Ov) (by with_reducible repeat constructor)
  obtain ⟨t, ow, ⟨cvv, ovv, tq⟩⟩ := x
  dsimp only at H hwf hok htx hox hcl hol HR ⊢
  obtain ⟨Ac, cc, rfl⟩ := H.slice (v := cvv) (by with_reducible repeat constructor)
  obtain ⟨Aw, cw, rfl⟩ := H.slice (v := ovv) (by with_reducible repeat constructor)
  have HTQ := Lib.hid (show tq.length = ow.length ∧ t.cols.length = ow.length from ⟨by rw [← hok, List.length_map], hwf.len⟩)
  have HOK := Lib.hid hok
  clear hok hwf
  have hT0 := htx 0 _ rfl
  have hT1 := htx 1 _ rfl
  have hne : txs ≠ [] := fun e => by rw [e] at hT0; cases hT0
  have hne2 : oxs ≠ [] := fun e => by rw [e] at hox; cases hox
  obtain ⟨gt, rfl, hgt, hct, -⟩ := H.rowAt (A := At) (by with_reducible repeat constructor) hne
  obtain ⟨go, rfl, hgo, hco, -⟩ := H.rowAt (A := Ao) (by with_reducible repeat constructor) hne2
  have hk0 : (0 : Int) ≤ (k : Int) := by omega
  have hk1 : (k : Int) < (nt : Int) := by omega
  have hk2 : (k : Int) < (no : Int) := by omega
  have t1 := hct _ _ hT1
  have dB := HS.box (z := pb) H (by with_reducible repeat constructor); have dL := Box.lt dB; obtain ⟨hcB, hfB⟩ := Box.cells dB; have d6 := hcB 6; have df6 := hfB 6; have d22 := hcB 22; have df22 := hfB 22; clear hcB hfB
  rw [h6] at d6
  rw [h22] at d22
  have Hw := H.rowNil 9 1
  clear H
  go_enter Tryz.func72, Tryz.ntmps72
  go_upto_region 4 with fail
  go_loopw [9, 32] (fun v9 v32 wr => ∃ i : Nat, v32 = .int .i64 (i : Int) ∧ i ≤ t.cols.length ∧ HS wr (rowA 9 1 v9 i (((t.cols.map Col.name).take i).map strV) :: boxA zs #[sv, cv] 137 :: rowA 9 1 sv sn xs :: rowA 26 1 cv sn ys :: namesA q :: boxA pb ds 58 :: rowA 77 4 (.slice (some ⟨gt, 0, none⟩) nt ct) nt txs :: rowA 179 1 (.slice (some ⟨go, 0, none⟩) no co) no oxs :: rowA 80 7 (.slice Ac t.cols.length cc) t.cols.length (coC (t.cols.map co0)) :: rowA 35 1 (.slice Aw tq.length cw) tq.length (tq.map Prod.snd) :: allA (tq.map tkRow) :: l)) (fun _ v32 _ => t.cols.length - (intOf v32).toNat)
  case atStart => exact ⟨0, rfl, by omega, Hw⟩
  case round =>
    obtain ⟨i, rfl, hi, Hr⟩ := hrel
    clear t1 d6 d22 df6 df22 dB dL Hw
    obtain ⟨A9, c9, rfl⟩ := Hr.slice (v := u9) (by with_reducible repeat constructor)
    by_cases hlt : i < t.cols.length
    · have h1 : (i : Int) < (t.cols.length : Int) := by omega
      have h0 : (0 : Int) ≤ (i : Int) := by omega
      obtain ⟨c, hc⟩ : ∃ c, t.cols[i]? = some c := ⟨_, List.getElem?_eq_getElem hlt⟩
      have hc0 : (t.cols.map co0)[i]? = some (co0 c) := by rw [List.getElem?_map, hc]; rfl
      have hS : (t.cols.map Col.name).take (i + 1) = (t.cols.map Col.name).take i ++ [c.name] := by rw [List.take_add_one, List.getElem?_map, hc]; rfl
      obtain ⟨gc, eA, hgc, hcc, -⟩ := Hr.rowAt (A := Ac) (by with_reducible repeat constructor) (fun e => by have := coC_at hc0 0 _ rfl; rw [e] at this; cases this)
      subst eA
      have q0 := hcc _ _ (coC_at hc0 0 _ rfl)
      have q1 := hcc _ _ (coC_at hc0 1 _ rfl)
      have q2 := hcc _ _ (coC_at hc0 2 _ rfl)
      have q3 := hcc _ _ (coC_at hc0 3 _ rfl)
      have q4 := hcc _ _ (coC_at hc0 4 _ rfl)
      have q5 := hcc _ _ (coC_at hc0 5 _ rfl)
      have q6 := hcc _ _ (coC_at hc0 6 _ rfl)
      rw [Nat.add_zero] at q0
      dsimp only [co0] at q0 q1 q2 q3 q4 q5 q6
      have HS2 := Lib.hid hS
      clear hS hcc hc hc0
      go_upto_region 6 with fail
      obtain ⟨z, w1, ez, ew, H1⟩ := Hr.alloc_ex (colC c (.slice none 0 0)) 80
      unfold colC at ew
      rw [ew, ez]
      clear ez ew q0 q1 q2 q3 q4 q5 q6
      have xB := HS.box (z := z) H1 (by with_reducible repeat constructor); have xL := Box.lt xB; obtain ⟨hcB, hfB⟩ := Box.cells xB; have x0 := hcB 0; have xf0 := hfB 0; clear hcB hfB; unfold colC at x0
      go_wp2_with (at_builtin; refine wpList_appAny (v := .slice A9 i c9) rfl _ _ stS (by rfl) (by rfl) ((H1.alloc #[.string ⟨c.name.toArray⟩] 9).row (v := .slice A9 i c9) (by with_reducible repeat constructor)) (by rfl) (news := [.string ⟨c.name.toArray⟩]) (by rfl) (litRd (heap_alloc_new _ _)) (fun h => by cases h) (by intro u hu; simp at hu; (repeat' (rcases hu with rfl | hu)); all_goals (first | rfl | (subst hu; rfl))) (by omega) (by first | exact Nat.zero_le _ | omega | (simp; omega)) ?_; intro vA wA ownA gA atA; have H2 := (H1.alloc #[.string ⟨c.name.toArray⟩] 9).app (v := .slice A9 i c9) (by with_reducible repeat constructor) ownA gA atA)
      go_roundw
      case rel =>
        refine ⟨i + 1, by go_num, by omega, ?_⟩
        rw [HS2.out, List.map_append, show [c.name].map strV = [.string ⟨c.name.toArray⟩] from rfl]
        exact H2.sub (by with_reducible repeat constructor)
      case measure => simp [intOf]; omega
    · obtain rfl : i = t.cols.length := by omega
      rw [List.take_of_length_le (by simp)] at Hr
      have h1 : ¬ (t.cols.length : Int) < (t.cols.length : Int) := by omega
      obtain ⟨names, hnm⟩ : ∃ names, names = t.cols.map Col.name := ⟨_, rfl⟩
      have hnl : names.length = t.cols.length := by rw [hnm, List.length_map]
      rw [← hnm] at Hr
      have HNM := Lib.hid hnm
      clear hnm
      obtain ⟨go2, eg, -, hco2, -⟩ := Hr.rowAt (A := some ⟨go, 0, none⟩) (by with_reducible repeat constructor) hne2
      injection eg with eg
      injection eg with eg _ _
      subst eg
      have o1 := hco2 _ _ hox
      have dB := HS.box (z := pb) Hr (by with_reducible repeat constructor); have dL := Box.lt dB; obtain ⟨hcB, hfB⟩ := Box.cells dB; have d22 := hcB 22; have df22 := hfB 22; clear hcB hfB
      rw [h22] at d22
      have Hx : HS wr (rowA 80 7 (.slice Ac t.cols.length cc) t.cols.length (coC ([] ++ (t.cols.drop 0).map co0)) :: allA ([].map coA) :: rowA 9 1 (.slice A9 t.cols.length c9) t.cols.length (names.map strV) :: boxA zs #[sv, cv] 137 :: rowA 9 1 sv sn xs :: rowA 26 1 cv sn ys :: namesA q :: boxA pb ds 58 :: rowA 77 4 (.slice (some ⟨gt, 0, none⟩) nt ct) nt txs :: rowA 179 1 (.slice (some ⟨go, 0, none⟩) no co) no oxs :: rowA 35 1 (.slice Aw tq.length cw) tq.length (tq.map Prod.snd) :: allA (tq.map tkRow) :: l) := by
        rw [List.nil_append, List.drop_zero, List.map_nil]
        exact (HS.mkAll (m := []) Hr).sub (by with_reducible repeat constructor)
      clear Hr hco2 hco
      go_upto_region 9 with fail
      go_loopw [50] (fun v50 wr => ∃ (i : Nat) (X : List Co) (ms : List (List Int)), v50 = .int .i64 (i : Int) ∧ i ≤ tq.length ∧ ColsAt t.cols ow names i X ms ∧ HS wr (rowA 80 7 (.slice Ac t.cols.length cc) t.cols.length (coC (X ++ (t.cols.drop i).map co0)) :: allA (X.map coA) :: rowA 9 1 (.slice A9 t.cols.length c9) t.cols.length (names.map strV) :: boxA zs #[sv, cv] 137 :: rowA 9 1 sv sn xs :: rowA 26 1 cv sn ys :: namesA q :: boxA pb ds 58 :: rowA 77 4 (.slice (some ⟨gt, 0, none⟩) nt ct) nt txs :: rowA 179 1 (.slice (some ⟨go, 0, none⟩) no co) no oxs :: rowA 35 1 (.slice Aw tq.length cw) tq.length (tq.map Prod.snd) :: allA (tq.map tkRow) :: l)) (fun v50 _ => tq.length - (intOf v50).toNat)
      case atStart => exact ⟨0, [], [], rfl, by omega, ColsAt.nil, Hx⟩
      case round =>
        obtain ⟨i, X, ms, rfl, hi2, hX, Hr⟩ := hrel
        clear Hx o1 d22 df22 dB dL h1 hlt hi hgt hct
        by_cases hlt : i < tq.length
        · have h1 : (i : Int) < (tq.length : Int) := by omega
          have h0 : (0 : Int) ≤ (i : Int) := by omega
          have hic : i < t.cols.length := by have := HTQ.out; omega
          obtain ⟨⟨o, ov⟩, ho⟩ : ∃ o, tq[i]? = some o := ⟨_, List.getElem?_eq_getElem hlt⟩
          have ho2 : ow[i]? = some o := by rw [← HOK.out, List.getElem?_map, ho]; rfl
          have hov : (tq.map Prod.snd)[i]? = some ov := by rw [List.getElem?_map, ho]; rfl
          have hmem : tkRow (o, ov) ∈ tq.map tkRow := List.mem_map.2 ⟨_, List.mem_of_getElem? ho, rfl⟩
          have hol2 := hol o (List.mem_of_getElem? ho2)
          obtain ⟨c, hc⟩ : ∃ c, t.cols[i]? = some c := ⟨_, List.getElem?_eq_getElem hic⟩
          obtain ⟨gw, eA, hgw, hcw2, -⟩ := Hr.rowAt (A := Aw) (by with_reducible repeat constructor) (fun e => by rw [e] at hov; cases hov)
          subst eA
          have w1 := hcw2 _ _ hov
          obtain ⟨Aq, cq, rfl⟩ : ∃ A c, ov = .slice A o.length c := by
            obtain ⟨S, hS, -⟩ := Hr.mem (m := tq.map tkRow) (by with_reducible repeat constructor) hmem
            obtain ⟨A, c, e, -, -⟩ := own_slice hS
            exact ⟨A, c, e⟩
          have Hy := Hr.rowNil 3 1
          clear Hr hcw2 hov ho
          go_upto_region 13 with fail
          go_loopw [14, 57] (fun v14 v57 wr => ∃ (j : Nat) (m : List Int), v57 = .int .i64 (j : Int) ∧ j ≤ o.length ∧ m.length = j ∧ Hid (mapE (findCol names) (o.take j) = .ok m) ∧ HS wr (rowA 3 1 v14 j (intV m) :: rowA 80 7 (.slice Ac t.cols.length cc) t.cols.length (coC (X ++ (t.cols.drop i).map co0)) :: allA (X.map coA) :: rowA 9 1 (.slice A9 t.cols.length c9) t.cols.length (names.map strV) :: boxA zs #[sv, cv] 137 :: rowA 9 1 sv sn xs :: rowA 26 1 cv sn ys :: namesA q :: boxA pb ds 58 :: rowA 77 4 (.slice (some ⟨gt, 0, none⟩) nt ct) nt txs :: rowA 179 1 (.slice (some ⟨go, 0, none⟩) no co) no oxs :: rowA 35 1 (.slice (some ⟨gw, 0, none⟩) tq.length cw) tq.length (tq.map Prod.snd) :: allA (tq.map tkRow) :: l)) (fun _ v57 _ => o.length - (intOf v57).toNat)
          case atStart => exact ⟨0, [], rfl, by omega, rfl, rfl, Hy⟩
          case round =>
            obtain ⟨j, m, rfl, hj, hml, HM, Hr⟩ := hrel
            clear Hy w1
            obtain ⟨A14, c14, rfl⟩ := Hr.slice (v := u14) (by with_reducible repeat constructor)
            by_cases hjl : j < o.length
            · have h3 : (j : Int) < (o.length : Int) := by omega
              have h4 : (0 : Int) ≤ (j : Int) := by omega
              obtain ⟨tk, htk⟩ : ∃ tk, o[j]? = some tk := ⟨_, List.getElem?_eq_getElem hjl⟩
              obtain ⟨b, off, e1, hb, k0, k1, k2, k3⟩ : ∃ b off, Aq = some ⟨b, off, none⟩ ∧ b < wr.heap.size ∧ wr.cell? ⟨b, off + j * 4, none⟩ = some (.int .i64 tk.kind) ∧ wr.cell? ⟨b, off + j * 4 + 1, none⟩ = some (.string ⟨tk.text.toArray⟩) ∧ wr.cell? ⟨b, off + j * 4 + 2, none⟩ = some (.int .i64 tk.int) ∧ wr.cell? ⟨b, off + j * 4 + 3, none⟩ = some (.int .i64 tk.pos) := by
                obtain ⟨S, hS, -⟩ := Hr.mem (m := tq.map tkRow) (by with_reducible repeat constructor) hmem
                obtain ⟨b, off, t2, e1, hb, e2, r⟩ := RowK.at4 (RowOf.of_own hS rfl) hjl
                rw [htk] at e2
                injection e2 with e2
                subst e2
                exact ⟨b, off, e1, hb, r⟩
              subst e1
              go_upto_region 15 with fail
              obtain ⟨z, w3, ez, ew, H3⟩ := Hr.alloc_ex (tkC tk) 83
              unfold tkC at ew
              rw [ew, ez]
              clear ez ew k0 k1 k2 k3
              have xB := HS.box (z := z) H3 (by with_reducible repeat constructor); have xL := Box.lt xB; obtain ⟨hcB, hfB⟩ := Box.cells xB; have x0 := hcB 0; have xf0 := hfB 0; have x1 := hcB 1; have xf1 := hfB 1; have x2 := hcB 2; have xf2 := hfB 2; have x3 := hcB 3; have xf3 := hfB 3; clear hcB hfB; unfold tkC at x0 x1 x2 x3
              have hF := findColumn_c (c := c9) tk (H3.rowB (ws := names) (A := A9) (by with_reducible repeat constructor) hnl) hcl
              unfold FcPost int3 at hF
              cases hq : findCol names tk with
              | error p =>
                have hp := fcR_error hq
                rw [hp.1, hp.2] at hF
                have hE := mapE_stop hX.e ho2 (mapE_stop HM.out htk hq)
                have hR := HR.out
                unfold resTable at hR
                rw [← HNM.out, hE] at hR
                dsimp only at hR
                subst hR
                have hp2 := Lib.hid hp.2
                clear HR hE hp hX HM hq
                dsimp only at hF
                go_wp2_with (go_at_call 112; (with_reducible refine hF.mono ?_); rintro e w4 ⟨rfl, hb4⟩; have H4 := H3.below hb4)
                go_ret2
                unfold RtbPost
                refine ⟨?_, H4.sub (by with_reducible repeat constructor)⟩
                show Ending.returned (.tuple #[.int .i64 p.1, .int .i64 3]) = Ending.returned (.tuple #[.int .i64 p.1, .int .i64 p.2])
                rw [hp2.out]
              | ok kk =>
                rw [fcR_ok hq] at hF
                have HM2 := Lib.hid (mapE_step HM.out htk hq)
                clear HM hq htk
                dsimp only at hF
                go_wp2_with (first
                  | (go_at_call 112; (with_reducible refine hF.mono ?_); rintro e w4 ⟨rfl, hb4⟩; have H4 := H3.below hb4)
                  | (at_builtin; refine wpList_appAny (v := .slice A14 j c14) rfl _ _ stI (by rfl) (by rfl) ((H4.alloc #[.int .i64 kk] 3).row (v := .slice A14 j c14) (by with_reducible repeat constructor)) (by rfl) (news := [.int .i64 kk]) (by rfl) (litRd (heap_alloc_new _ _)) (fun h => by cases h) (by intro u hu; simp at hu; (repeat' (rcases hu with rfl | hu)); all_goals (first | rfl | (subst hu; rfl))) (by omega) (by first | exact Nat.zero_le _ | omega | (simp; omega)) ?_; intro vA wA ownA gA atA; have H5 := (H4.alloc #[.int .i64 kk] 3).app (v := .slice A14 j c14) (by with_reducible repeat constructor) ownA gA atA))
                go_roundw
                case rel =>
                  refine ⟨j + 1, m ++ [kk], by go_num, by omega, by simp [hml], HM2.out, ?_⟩
                  rw [show intV (m ++ [kk]) = intV m ++ [.int .i64 kk] by simp [intV]]
                  exact H5.sub (by with_reducible repeat constructor)
                case measure => simp [intOf]; omega
            · obtain rfl : j = o.length := by omega
              have h3 : ¬ (o.length : Int) < (o.length : Int) := by omega
              have hM := HM.out
              rw [List.take_of_length_le (Nat.le_refl _)] at hM
              have hS := fun w1 l1 l2 (H : HS w1 l1) (hp : Pick l1 (rowA 3 1 (.slice A14 o.length c14) o.length (intV m)) l2) => sort_s A14 o.length c14 m (by omega) H hp
              have hsl : (m.mergeSort fun x y => decide (x ≤ y)).length = o.length := by rw [List.length_mergeSort, hml]
              have HC := Lib.hid (compact_cols m)
              generalize m.mergeSort (fun x y => decide (x ≤ y)) = ss at hS HC hsl
              have hC := fun w1 l1 l2 (H : HS w1 l1) (hp : Pick l1 (rowA 3 1 (.slice A14 o.length c14) o.length (intV ss)) l2) => compact_s A14 o.length c14 ss (by omega) H hp
              have hX2 := fun v => hX.snoc (v := v) hc ho2 hM
              have HX2 := Lib.hid hX2
              have HXL := Lib.hid hX.n
              generalize Lib.compact ss = rs at hC HC
              clear hX hM HM hX2 hsl hml
              obtain ⟨gc, eA, hgc, hcc, -⟩ := Hr.rowAt (A := Ac) (by with_reducible repeat constructor) (fun e => by
                have := congrArg List.length e
                rw [coC_len, List.length_append, List.length_map, List.length_drop, List.length_nil] at this
                omega)
              subst eA
              clear hcc
              have hlen : i * 7 + 4 < (coC (X ++ (t.cols.drop i).map co0)).length := by
                have := HXL.out
                rw [coC_len, List.length_append, List.length_map, List.length_drop]
                omega
              have hi7 : (i : Int) < (t.cols.length : Int) := by omega
              go_upto_region 21 with (go_at_call 34; (with_reducible refine (hS _ _ _ Hr (by with_reducible repeat constructor)).mono ?_); rintro e w3 ⟨rfl, H3⟩)
              obtain ⟨g2, e2, -, h2c, -⟩ := H3.rowAt (A := some ⟨gt, 0, none⟩) (by with_reducible repeat constructor) hne
              injection e2 with e2
              injection e2 with e2 _ _
              subst e2
              have s1 := h2c _ _ hT1
              clear h2c
              (refine wp_region_G 9 (fun w' => w'.cell? ⟨gt, k * 4 + 1, none⟩ = some (.slice (some ⟨gc, 0, none⟩) t.cols.length cc)) (by kernel_rfl) ?_ (fun hHeld => ?_); (focus (try dsimp only); go_keep))
              (refine GG.tk 0 (v := ?_) rfl (by kernel_rfl) (fun _ _ _ h => h) (by rfl) (by assumption) ?_ ?_; rotate_left; (focus (intro w h; (try dsimp only at h); go_simp; (try with_reducible rfl))); (try simp only [Act.put, qqa]); refine GG.tk 1 (v := ?_) rfl (by kernel_rfl) (fun _ _ _ h => h) (by rfl) (by assumption) ?_ ?_; rotate_left; (focus (intro w h; (try dsimp only at h); go_simp; (try with_reducible rfl))); (try simp only [Act.put]); refine GG.tk 2 (v := ?_) rfl (by kernel_rfl) (fun _ _ _ h => h) (by rfl) (by assumption) ?_ ?_; rotate_left; (focus (intro w h; (try dsimp only at h); go_simp; (try with_reducible rfl))); (try simp only [Act.put]); refine GG.tk 3 (v := ?_) rfl (by kernel_rfl) (fun _ _ _ h => h) (by rfl) (by assumption) ?_ ?_; rotate_left; (focus (intro w h; (try dsimp only at h); go_simp; (try with_reducible rfl))); (try simp only [Act.put]); refine GG.tk 4 (v := ?_) rfl (by kernel_rfl) (fun _ _ _ h => h) (by rfl) (by assumption) ?_ ?_; rotate_left; (focus (intro w h; (try dsimp only at h); go_simp; (try with_reducible rfl))); (try simp only [Act.put]); refine GG.tk 5 (v := ?_) rfl (by kernel_rfl) (fun _ _ _ h => h) (by rfl) (by assumption) ?_ ?_; rotate_left; (focus (intro w h; (try dsimp only at h); go_simp; (try with_reducible rfl))); (try simp only [Act.put]))
              (refine GG.one 6 (by kernel_rfl) (by decide) rfl (fun K hK => ?_); (go_simp; go_at_call 35; (with_reducible refine (hC _ _ _ H3.drew (by with_reducible repeat constructor)).mono ?_); rintro e w4 ⟨rfl, H4⟩; obtain ⟨g3, e3, -, h3c, -⟩ := H4.rowAt (A := some ⟨gt, 0, none⟩) (by with_reducible repeat constructor) hne; injection e3 with e3; injection e3 with e3 _ _; subst e3; have s2 := h3c _ _ hT1; obtain ⟨g4, e4, -, h4c, h4f⟩ := H4.rowAt (A := some ⟨gc, 0, none⟩) (by with_reducible repeat constructor) (fun e => by rw [e] at hlen; simp at hlen); injection e4 with e4; injection e4 with e4 _ _; subst e4; have s3 := h4c _ _ (List.getElem?_eq_getElem hlen); have s4 := h4f (i * 7 + 4)); refine hK.out _ _ ?_ (fun hHeld => ?_); (focus (try dsimp only); go_keep); clear hK K; (try simp only [Act.put, qqa, qqb, qqc]))
              (refine GG.tk 7 (v := ?_) rfl (by kernel_rfl) (fun _ _ _ h => h) (by rfl) (by assumption) ?_ ?_; rotate_left; (focus (intro w h; (try dsimp only at h); go_simp; (try with_reducible rfl))); (try simp only [Act.put, qqa]); refine GG.tk 8 (v := ?_) rfl (by kernel_rfl) (fun _ _ _ h => h) (by rfl) (by assumption) ?_ ?_; rotate_left; (focus (intro w h; (try dsimp only at h); go_simp; (try with_reducible rfl))); (try simp only [Act.put]))
              (refine GG.last (by kernel_rfl) (by kernel_rfl) rfl (fun K hK => ?_); go_simp; refine hK.out _ _ ?_; clear hK K)
              go_wp2_with fail
              go_roundw
              case rel =>
                refine ⟨i + 1, X ++ [(owned c m, .slice A14 rs.length c14)], ms ++ [m], by go_num, by omega, HX2.out _, ?_⟩
                have H5 := H4.rowStore (g := gc) (by with_reducible repeat constructor) (i * 7 + 4) hlen (.slice A14 rs.length c14)
                have hdr : t.cols.drop i = c :: t.cols.drop (i + 1) := by
                  obtain ⟨h5, h6⟩ := List.getElem?_eq_some_iff.1 hc
                  rw [List.drop_eq_getElem_cons h5, h6]
                have hXn := (HX2.out (.slice none 0 0)).n
                rw [List.length_append, List.length_singleton] at hXn
                obtain rfl : X.length = i := by omega
                rw [hdr, List.map_cons, show co0 c = (c, .slice none 0 0) from rfl, coC_set _ _ _ m] at H5
                rw [List.append_assoc, List.singleton_append, List.map_append, List.map_singleton, show coA (owned c m, .slice A14 rs.length c14) = rowA 3 1 (.slice A14 rs.length c14) rs.length (intV rs) by unfold coA owned; rw [HC.out]]
                exact (HS.pushA (m := X.map coA) (A := rowA 3 1 (.slice A14 rs.length c14) rs.length (intV rs)) H5 (by with_reducible repeat constructor) (by with_reducible repeat constructor)).sub (by with_reducible repeat constructor)
              case measure => simp [intOf]; omega
        · obtain rfl : i = tq.length := by omega
          have h1 : ¬ (tq.length : Int) < (tq.length : Int) := by omega
          have hE := hX.e
          have hLL := HTQ.out
          rw [List.take_of_length_le (by omega)] at hE
          have hR := HR.out
          unfold resTable at hR
          rw [← HNM.out, hE] at hR
          dsimp only at hR
          subst hR
          have hXx := hX.x
          rw [List.take_of_length_le (by omega)] at hXx
          have HX := Lib.hid hXx
          have HD := Lib.hid (show t.cols.drop tq.length = [] from List.drop_of_length_le (by omega))
          clear hLL
          obtain ⟨g2, e2, -, h2c, -⟩ := Hr.rowAt (A := some ⟨gt, 0, none⟩) (by with_reducible repeat constructor) hne
          injection e2 with e2
          injection e2 with e2 _ _
          subst e2
          have s0 := h2c _ _ hT0
          rw [Nat.add_zero] at s0
          have hA := scopeAdd_s t.name A9 t.cols.length c9 hsn hsn (Hr.sub (l' := boxA zs #[sv, cv] 137 :: rowA 9 1 sv sn xs :: rowA 26 1 cv sn ys :: rowA 9 1 (.slice A9 t.cols.length c9) t.cols.length (names.map strV) :: namesA q :: boxA pb ds 58 :: rowA 77 4 (.slice (some ⟨gt, 0, none⟩) nt ct) nt txs :: rowA 179 1 (.slice (some ⟨go, 0, none⟩) no co) no oxs :: rowA 80 7 (.slice Ac t.cols.length cc) t.cols.length (coC (X ++ (t.cols.drop tq.length).map co0)) :: allA (X.map coA) :: l) (by with_reducible repeat constructor))
          clear HR hE hXx hX h2c
          go_wp2_with (go_at_call 113; (with_reducible refine hA.mono ?_); rintro e w4 ⟨rfl, sv2, cv2, H4⟩)
          go_ret2
          refine ⟨rfl, X, sv2, cv2, .slice A9 t.cols.length c9, HX.out, ?_⟩
          rw [HD.out, List.map_nil, List.append_nil] at H4
          dsimp only
          rw [← HNM.out]
          exact (HS.namesPush (q := q) (v := .slice A9 t.cols.length c9) hnl H4 (by with_reducible repeat constructor) (by with_reducible repeat constructor)).sub (by with_reducible repeat constructor)
end Go.Proofs.YtgnmnaclndkmdaaGreatDoor
namespace Go.Proofs.YtgnmnaclndkmdaaGreatDoor

structure SmT (t : Tab) (o : List (List Tk)) : Prop where
  n : t.cols.length ≤ 1000000
  o : ∀ x ∈ o, x.length ≤ 1000000
end Go.Proofs.YtgnmnaclndkmdaaGreatDoor
