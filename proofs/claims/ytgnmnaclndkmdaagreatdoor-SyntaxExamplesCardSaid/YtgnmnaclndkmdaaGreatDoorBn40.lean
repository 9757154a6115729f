/- Contracts of the reference's Add and Columns, and of SameInts. Contract of the laws' sanity check awake: Parse of its two sources. The variable ErrRange can be read. How the program writes expressions as tokens: a mirror in plain Lean. No program in sight, no condition. The writer of tokens as a part of memory; write and number. Words of at most 1000000 bytes, at most 1000000 tokens. number of a writer; columnName, wordOf and isBare of the program. At most 1001000 tokens. isBare, constant and reference of the writer of expressions. At most 1000000 tokens. -/
import Derived.Test.YtgnmnaclndkmdaaGreatDoorBn32
import Derived.BigQuiet
import Derived.Test.YtgnmnaclndkmdaaGreatDoorBn39
import Derived.Test.YtgnmnaclndkmdaaGreatDoorBn09
namespace Go.Proofs.YtgnmnaclndkmdaaGreatDoor
open Go.RowKit

set_option maxRecDepth 100000 in
set_option maxHeartbeats 1000000 in
theorem sameInts_c (A B : Option Addr) (n c d : Nat) (zs : List Int) (w : World) (hn : n ≤ 1000) (hr : RowI w w.heap.size A n zs) (hs : RowI w w.heap.size B n zs) : Calls Tryz.prog 23 #[.slice A n c, .slice B n d] w fun e w' => e = .returned (.bool true) ∧ Below w.heap.size w w' := by
  have tn : ((n : Int) != (n : Int)) = false := by simp
  go_enter Tryz.func23, Tryz.ntmps23
  go_wp2_with fail
  go_loopw [5] (fun v5 wr => ∃ k : Nat, v5 = .int .i64 (k : Int) ∧ k ≤ n ∧ Below w.heap.size w wr) (fun v5 _ => n - (intOf v5).toNat)
  case atStart => exact ⟨0, rfl, by omega, by (repeat (first | (with_reducible exact Below.refl _ _) | (with_reducible assumption) | (with_reducible refine Below.drew ?_) | (with_reducible refine below_drewN ?_ _) | ((with_reducible refine Below.setCell ?_ ?_ _); rotate_left; (focus (first | (simp; done) | (simp; omega) | omega))) | ((with_reducible refine Below.alloc ?_ ?_ _); rotate_left; (focus (first | (simp; done) | (simp; omega) | omega))) | ((with_reducible apply below_step1); (focus (with_reducible assumption)))))⟩
  case round =>
    obtain ⟨k, rfl, hk, hbel⟩ := hrel
    have hzz := hbel.size
    by_cases hlt : k < n
    · have h1 : (k : Int) < (n : Int) := by omega
      have h0 : (0 : Int) ≤ (k : Int) := by omega
      have hkw : IntKind.i64.wrap ((k : Int) + 1) = (k : Int) + 1 := IntWalk.i64_in _ (by omega)
      obtain ⟨b, off, z, rfl, hb, hz1, c0⟩ := RowI.at1 (hr.to hbel) hlt
      obtain ⟨b', off', z', rfl, hb', hz2, d0⟩ := RowI.at1 (hs.to hbel) hlt
      obtain rfl := Option.some.inj (hz1.symm.trans hz2)
      have tz : (z != z) = false := by simp
      clear hz1 hz2
      go_wp2_with fail
      go_quiet (fail)
      go_wp2_with fail
      go_roundw
      case rel => exact ⟨k + 1, by go_num, by omega, by (repeat (first | (with_reducible exact Below.refl _ _) | (with_reducible assumption) | (with_reducible refine Below.drew ?_) | (with_reducible refine below_drewN ?_ _) | ((with_reducible refine Below.setCell ?_ ?_ _); rotate_left; (focus (first | (simp; done) | (simp; omega) | omega))) | ((with_reducible refine Below.alloc ?_ ?_ _); rotate_left; (focus (first | (simp; done) | (simp; omega) | omega))) | ((with_reducible apply below_step1); (focus (with_reducible assumption)))))⟩
      case measure => simp [intOf]; omega
    · have h1 : ¬ (k : Int) < (n : Int) := by omega
      go_wp2_with fail
      go_ret
      exact ⟨rfl, by (repeat (first | (with_reducible exact Below.refl _ _) | (with_reducible assumption) | (with_reducible refine Below.drew ?_) | (with_reducible refine below_drewN ?_ _) | ((with_reducible refine Below.setCell ?_ ?_ _); rotate_left; (focus (first | (simp; done) | (simp; omega) | omega))) | ((with_reducible refine Below.alloc ?_ ?_ _); rotate_left; (focus (first | (simp; done) | (simp; omega) | omega))) | ((with_reducible apply below_step1); (focus (with_reducible assumption)))))⟩

end Go.Proofs.YtgnmnaclndkmdaaGreatDoor
namespace Go.Proofs.YtgnmnaclndkmdaaGreatDoor
open Go.RowKit

theorem map_two {α β : Type} {X : List (α × β)} {a b : α} (h : X.map Prod.fst = [a, b]) : ∃ u v, X = [(a, u), (b, v)] := by
  cases X with
  | nil => cases h
  | cons x X =>
    cases X with
    | nil => cases h
    | cons y X =>
      cases X with
      | nil =>
        simp at h
        exact ⟨x.2, y.2, by rw [← h.1, ← h.2]⟩
      | cons z X => cases h
theorem rowI_box {w : World} {z : Nat} {te : TypeId} {a : Int} (B : Box w z #[.int .i64 a] te) : RowI w w.heap.size (some ⟨z, 0, none⟩) 1 [a] := by
  refine ⟨rfl, fun _ => ⟨z, 0, rfl, B.lt, fun j u hu => ?_⟩⟩
  obtain ⟨hc, -⟩ := Box.cells B
  rw [Nat.zero_add, hc j]
  simpa using hu
set_option maxRecDepth 100000 in
set_option maxHeartbeats 8000000 in
theorem awake5_c (w : World) (hE : GE w) : Calls Tryz.prog 8 #[] w fun e w' => e = .returned (.bool true) ∧ Below w.heap.size w w' := by
  have hA := parse_T ⟨src1.toArray⟩ w (by decide) hE (toks := toks1) (k := (scanO src1).2.1) scan_1 (d := res1.1) (sx := res1.2) rfl fail_1 cat_1 own_1 rest_1 wf_1 sm_1 res_1 ok_1
  have hV := fun w1 (h : GE w1) => parse_V ⟨src2.toArray⟩ w1 (by decide) h (toks := toks2) (k := (scanO src2).2.1) scan_2 (d := res2.1) (sx := res2.2) rfl fail_2 (n := vn2) cat_2 view_2
  rw [show vn2.left.pos = 25 from rfl] at hV
  unfold PtPost at hA
  unfold src1 at hA
  unfold src2 at hV
  go_enter Tryz.func8, Tryz.ntmps8
  go_upto_region 2 with (go_at_call 22; refine hA.mono ?_; rintro e w1 ⟨X, A, A0, A1, A2, A3, A4, A5, A6, A7, kk, k0, k1, k2, k3, k4, k5, k6, k7, hX, rfl, H1⟩; have HX := Lib.hid hX; clear hX)
  obtain ⟨z1, w2, ez, ew, H2⟩ := H1.alloc_ex #[.slice A0 1 k0, .slice A1 0 k1, .slice A2 0 k2, .slice A3 0 k3, .slice A4 0 k4, .slice A5 0 k5, .slice A6 0 k6, .slice A7 0 k7] 49
  (try rw [ez]); (try rw [ew])
  clear ez ew H1
  have hE2 := GE.below hE (H2.old (by with_reducible repeat constructor))
  go_upto_region 3 with (go_at_call 22; refine (hV _ hE2).mono ?_; rintro e w3 ⟨rfl, hb3⟩; have H3 := H2.below hb3)
  obtain ⟨z2, w4, ez, ew, H4⟩ := H3.alloc_ex #[.slice none 0 0, .slice none 0 0, .slice none 0 0, .slice none 0 0, .slice none 0 0, .slice none 0 0, .slice none 0 0, .slice none 0 0] 49
  (try rw [ez]); (try rw [ew])
  clear ez ew H3 hb3 H2 hE2
  have dB := HS.box (z := z1) H4 (by with_reducible repeat constructor); have dL := Box.lt dB; obtain ⟨hcB, hfB⟩ := Box.cells dB; have d0 := hcB 0; have df0 := hfB 0; clear hcB hfB
  obtain ⟨gt, eA, -, hct, -⟩ := H4.rowAt (A := A0) (by with_reducible repeat constructor) (fun e => by unfold tabC at e; cases e)
  subst eA
  have t1 := hct 1 _ rfl
  obtain ⟨u0, u1, rfl⟩ := map_two HX.out
  obtain ⟨Ao, ko, e1, hz⟩ := H4.intsAt (X := [(_, u0), (_, u1)]) (by with_reducible repeat constructor) (x := (_, u1)) (List.mem_cons_of_mem _ (List.mem_singleton.2 rfl))
  dsimp only at e1
  subst e1
  obtain ⟨gc, eA, -, hcc, -⟩ := H4.rowAt (A := A) (by with_reducible repeat constructor) (fun e => by cases e)
  subst eA
  have q4 := hcc 11 _ rfl
  have hb := H4.old (by with_reducible repeat constructor)
  have hsz := hb.size
  have hB := (H4.alloc #[.int .i64 0] 3).box (.here)
  clear hcc hct HX H4
  dsimp only at q4 hz t1
  have tt : ((2 : Int) == 2) = true := rfl
  go_wp2_with (go_at_call 23; refine (sameInts_c Ao _ 1 ko 1 [0] _ (by omega) ?_ ?_).mono ?_)
  · exact (hz.alloc (Nat.le_refl _) _).more (by simp)
  · exact rowI_box hB
  · rintro e w5 ⟨rfl, hb5⟩
    go_wp2_with fail
    go_ret
    exact ⟨rfl, by (repeat (first | (with_reducible exact Below.refl _ _) | (with_reducible assumption) | (with_reducible refine Below.drew ?_) | (with_reducible refine below_drewN ?_ _) | ((with_reducible refine Below.setCell ?_ ?_ _); rotate_left; (focus (first | (simp; done) | (simp; omega) | omega))) | ((with_reducible refine Below.alloc ?_ ?_ _); rotate_left; (focus (first | (simp; done) | (simp; omega) | omega))) | ((with_reducible apply below_step1); (focus (with_reducible assumption)))))⟩
end Go.Proofs.YtgnmnaclndkmdaaGreatDoor
namespace Go.Proofs.YtgnmnaclndkmdaaGreatDoor

def wdK (w : Bs) : Tk := ⟨if isNameB w = true then 1 else 4, w, 0, 0⟩
def numK (n : Int) : Tk := ⟨2, [], n, 0⟩
def opW (op : Int) : Bs :=
  if op = 3 ∨ op = 5 then [45] else if op = 4 then [43] else if op = 6 then [42] else if op = 7 then [47] else if op = 8 then [43, 43]
  else if op = 9 then [108, 101, 110, 103, 116, 104] else if op = 10 then [112, 114, 101, 102, 105, 120] else if op = 11 then [61] else if op = 12 then [60]
  else if op = 13 then wNot else if op = 14 then wAnd else if op = 15 then wOr else if op = 16 then [105, 115, 110, 117, 108, 108] else if op = 17 then [99, 111, 97, 108, 101, 115, 99, 101] else [105, 102]
def isFun (op : Int) : Bool := decide (op = 9 ∨ op = 10 ∨ op = 16 ∨ op = 17 ∨ op = 18)
def constW (v : V) : List Tk := if v.k = 2 then [⟨3, v.s.data.toList, 0, 0⟩] else if v.n < 0 then [wdK [45], numK (-v.n)] else [numK v.n]
def colName (left right : List Bs) (c : Nat) : Bs := if c < left.length then left.getD c [] else right.getD (c - left.length) []
def refW (left right : List Bs) (c : Nat) : List Tk :=
  if left.length ≤ c then [wdK wRight, wdK [46], wdK (colName left right c)]
  else if colName left right c = wNot then [wdK wLeft, wdK [46], wdK wNot]
  else [wdK (colName left right c)]
def bareW (t : T) (negated : Bool) : Bool := if t.op = 1 then decide (t.v.k = 2 ∨ (0 ≤ t.v.n ∧ negated = false)) else decide (t.op = 2) || isFun t.op
def operW (x : X) (negated : Bool) (l : List Tk) : List Tk := if bareW x.t negated = true then l else wdK [40] :: (l ++ [wdK [41]])
def commaW : List (List Tk) → List Tk
  | [] => []
  | [a] => a
  | a :: b :: l => a ++ wdK [44] :: commaW (b :: l)
def nodeW (left right : List Bs) (t : T) (ks : List X) (ls : List (List Tk)) : List Tk :=
  if t.op = 1 then constW t.v
  else if t.op = 2 then refW left right t.c.toNat
  else if isFun t.op = true then [wdK (opW t.op), wdK [40]] ++ commaW ls ++ [wdK [41]]
  else match ks, ls with
    | k :: _ :: [], a :: b :: [] => operW k false a ++ wdK (opW t.op) :: operW (ks.getD 1 k) false b
    | k :: _, a :: _ => wdK (opW t.op) :: operW k (t.op == 3) a
    | _, _ => []
mutual
def X.wr (left right : List Bs) : X → List Tk
  | .node t ks => nodeW left right t ks (wrs left right ks)
def wrs (left right : List Bs) : List X → List (List Tk)
  | [] => []
  | x :: l => x.wr left right :: wrs left right l
end
end Go.Proofs.YtgnmnaclndkmdaaGreatDoor
namespace Go.Proofs.YtgnmnaclndkmdaaGreatDoor
open Go.RowKit

/-- A writer with its tokens. -/
def wA (wb : Nat) (L : List Tk) : HA := exA fun tv : Value => allA [boxA wb #[tv] 70, rowA 83 4 tv L.length (L.flatMap Tk.cells)]
section
variable {w : World} {l l' : List HA} {wb : Nat} {L : List Tk}
theorem HS.wOpen (H : HS w l) (hp : Pick l (wA wb L) l') : ∃ A c, HS w (boxA wb #[.slice A L.length c] 70 :: rowA 83 4 (.slice A L.length c) L.length (L.flatMap Tk.cells) :: l') := by
  unfold wA at hp
  obtain ⟨tv, h⟩ := H.ex hp
  have h2 := h.all_
  simp only [List.cons_append, List.nil_append] at h2
  obtain ⟨A, c, rfl⟩ := h2.slice (v := tv) (by with_reducible repeat constructor)
  exact ⟨A, c, h2⟩
theorem HS.wClose {tv : Value} (H : HS w (boxA wb #[tv] 70 :: rowA 83 4 tv L.length (L.flatMap Tk.cells) :: l)) : HS w (wA wb L :: l) := HS.mkEx (x := tv) (HS.mkAll (m := [boxA wb #[tv] 70, rowA 83 4 tv L.length (L.flatMap Tk.cells)]) H)
theorem HS.wNew (H : HS w l) : HS (w.alloc (.cells #[.slice none 0 0] 70)) (wA w.heap.size [] :: l) := HS.wClose (L := []) ((H.rowNil 83 4).alloc #[.slice none 0 0] 70)
theorem wdK_cells (s : Bs) (b : Bool) (h : isNameB s = b) : (wdK s).cells = [.int .i64 (if b then 1 else 4), .string ⟨s.toArray⟩, .int .i64 0, .int .i64 0] := by
  unfold Tk.cells wdK
  rw [h]
theorem HS.wPush {tv : Value} {t : Tk} {xs : List Value} (hc : t.cells = xs) (H : HS w (boxA wb #[tv] 70 :: rowA 83 4 tv (L.length + 1) (L.flatMap Tk.cells ++ xs) :: l)) : HS w (wA wb (L ++ [t]) :: l) := by
  refine HS.wClose (tv := tv) ?_
  rw [List.length_append, List.flatMap_append, List.flatMap_cons, List.flatMap_nil, List.append_nil, hc]
  exact H
end
theorem stTk : SliceTy Tryz.prog 35 83 4 40 := SliceTy.mk' Tryz.underlying35 (z := .agg #[.int .i64 0, .string ⟨#[]⟩, .int .i64 0, .int .i64 0]) (by kernel_rfl) rfl (by decide) (by decide)
set_option maxRecDepth 100000 in
set_option maxHeartbeats 4000000 in
theorem write_s {w : World} {l : List HA} {wb z : Nat} {L : List Tk} (ws : List Bs) (hw : ∀ s ∈ ws, s.length ≤ 1000000) (hn : ws.length ≤ 1000) (hL : L.length ≤ 1000000) (H : HS w (boxA z (ws.map strV).toArray 9 :: wA wb L :: l)) :
    Calls Tryz.prog 60 #[.pointer (some ⟨wb, 0, none⟩), .slice (some ⟨z, 0, none⟩) ws.length ws.length] w fun e w' => e = .returned (.tuple #[]) ∧ HS w' (wA wb (L ++ ws.map wdK) :: l) := by
  have HW := Lib.hid hw
  clear hw
  go_enter Tryz.func60, Tryz.ntmps60
  go_upto_region 1 with fail
  go_loopw [9] (fun v9 wr => ∃ i : Nat, v9 = .int .i64 (i : Int) ∧ i ≤ ws.length ∧ HS wr (boxA z (ws.map strV).toArray 9 :: wA wb (L ++ (ws.take i).map wdK) :: l)) (fun v9 _ => ws.length - (intOf v9).toNat)
  case atStart => exact ⟨0, rfl, by omega, by rw [List.take_zero, List.map_nil, List.append_nil]; exact H⟩
  case round =>
    obtain ⟨i, rfl, hi, Hr⟩ := hrel
    clear H
    by_cases hlt : i < ws.length
    · have h1 : (i : Int) < (ws.length : Int) := by omega
      have h0 : (0 : Int) ≤ (i : Int) := by omega
      obtain ⟨s, hs⟩ : ∃ s, ws[i]? = some s := ⟨_, List.getElem?_eq_getElem hlt⟩
      have hsl := HW.out s (List.mem_of_getElem? hs)
      have hcell := Hr.boxAt (.here) i (u := .string ⟨s.toArray⟩) (by simp [hs, strV])
      have hM : L ++ (ws.take (i + 1)).map wdK = (L ++ (ws.take i).map wdK) ++ [wdK s] := by rw [List.take_add_one, hs, List.map_append, List.append_assoc]; rfl
      have HM := Lib.hid hM
      have hLn : (L ++ (ws.take i).map wdK).length ≤ 1001000 := by rw [List.length_append, List.length_map, List.length_take]; omega
      have hI := fun w1 => xisName ⟨s.toArray⟩ w1 (by show s.toArray.size ≤ _; simp; omega)
      dsimp only at hI
      generalize L ++ (ws.take i).map wdK = M at Hr HM hLn
      obtain ⟨A, c, H2⟩ := Hr.wOpen (wb := wb) (L := M) (by with_reducible repeat constructor)
      have dB := HS.box (z := wb) H2 (by with_reducible repeat constructor); have dL := Box.lt dB; obtain ⟨hcB, hfB⟩ := Box.cells dB; have d0 := hcB 0; have df0 := hfB 0; clear hcB hfB
      clear hM hs Hr
      cases hb : isNameB s with
      | true =>
        rw [hb] at hI
        have HC := Lib.hid (wdK_cells s _ hb)
        clear hb
        go_wp2_with (first
          | (go_at_call 18; refine (hI _).mono ?_; rintro e w1 ⟨rfl, rfl⟩)
          | (at_builtin; refine wpList_appAny (v := .slice A M.length c) rfl _ _ stTk (by rfl) (by rfl) ((H2.alloc #[.int .i64 1, .string ⟨s.toArray⟩, .int .i64 0, .int .i64 0] 83).row (v := .slice A M.length c) (by with_reducible repeat constructor)) (by rfl) (news := [.int .i64 1, .string ⟨s.toArray⟩, .int .i64 0, .int .i64 0]) (by rfl) (litRd (heap_alloc_new _ _)) (fun h => by cases h) (by intro u hu; simp at hu; (repeat' (rcases hu with rfl | hu)); all_goals (first | rfl | (subst hu; rfl))) (by omega) (by first | exact Nat.zero_le _ | omega | (simp; omega)) ?_; intro vA wA ownA gA atA; have H3 := (H2.alloc #[.int .i64 1, .string ⟨s.toArray⟩, .int .i64 0, .int .i64 0] 83).app (v := .slice A M.length c) (by with_reducible repeat constructor) ownA gA atA; have kB := HS.box (z := wb) H3 (by with_reducible repeat constructor); have kL := Box.lt kB; obtain ⟨hcB, hfB⟩ := Box.cells kB; have k0 := hcB 0; have kf0 := hfB 0; clear hcB hfB; obtain ⟨AB, cB, rfl, -, -⟩ := own_slice ownA; clear ownA gA atA))
        go_roundw
        case rel =>
          refine ⟨i + 1, by go_num, by omega, ?_⟩
          rw [HM.out]
          exact (HS.wPush HC.out ((H3.storeTo (z := wb) (by with_reducible repeat constructor) 0 (.slice AB (M.length + 1) cB) #[.slice AB (M.length + 1) cB] rfl).sub (l' := boxA wb #[.slice AB (M.length + 1) cB] 70 :: rowA 83 4 (.slice AB (M.length + 1) cB) (M.length + 1) (M.flatMap Tk.cells ++ [.int .i64 1, .string ⟨s.toArray⟩, .int .i64 0, .int .i64 0]) :: boxA z (ws.map strV).toArray 9 :: l) (by with_reducible repeat constructor))).sub (by with_reducible repeat constructor)
        case measure => simp [intOf]; omega
      | false =>
        rw [hb] at hI
        have HC := Lib.hid (wdK_cells s _ hb)
        clear hb
        go_wp2_with (first
          | (go_at_call 18; refine (hI _).mono ?_; rintro e w1 ⟨rfl, rfl⟩)
          | (at_builtin; refine wpList_appAny (v := .slice A M.length c) rfl _ _ stTk (by rfl) (by rfl) ((H2.alloc #[.int .i64 4, .string ⟨s.toArray⟩, .int .i64 0, .int .i64 0] 83).row (v := .slice A M.length c) (by with_reducible repeat constructor)) (by rfl) (news := [.int .i64 4, .string ⟨s.toArray⟩, .int .i64 0, .int .i64 0]) (by rfl) (litRd (heap_alloc_new _ _)) (fun h => by cases h) (by intro u hu; simp at hu; (repeat' (rcases hu with rfl | hu)); all_goals (first | rfl | (subst hu; rfl))) (by omega) (by first | exact Nat.zero_le _ | omega | (simp; omega)) ?_; intro vA wA ownA gA atA; have H3 := (H2.alloc #[.int .i64 4, .string ⟨s.toArray⟩, .int .i64 0, .int .i64 0] 83).app (v := .slice A M.length c) (by with_reducible repeat constructor) ownA gA atA; have kB := HS.box (z := wb) H3 (by with_reducible repeat constructor); have kL := Box.lt kB; obtain ⟨hcB, hfB⟩ := Box.cells kB; have k0 := hcB 0; have kf0 := hfB 0; clear hcB hfB; obtain ⟨AB, cB, rfl, -, -⟩ := own_slice ownA; clear ownA gA atA))
        go_roundw
        case rel =>
          refine ⟨i + 1, by go_num, by omega, ?_⟩
          rw [HM.out]
          exact (HS.wPush HC.out ((H3.storeTo (z := wb) (by with_reducible repeat constructor) 0 (.slice AB (M.length + 1) cB) #[.slice AB (M.length + 1) cB] rfl).sub (l' := boxA wb #[.slice AB (M.length + 1) cB] 70 :: rowA 83 4 (.slice AB (M.length + 1) cB) (M.length + 1) (M.flatMap Tk.cells ++ [.int .i64 4, .string ⟨s.toArray⟩, .int .i64 0, .int .i64 0]) :: boxA z (ws.map strV).toArray 9 :: l) (by with_reducible repeat constructor))).sub (by with_reducible repeat constructor)
        case measure => simp [intOf]; omega
    · obtain rfl : i = ws.length := by omega
      have h1 : ¬ (ws.length : Int) < (ws.length : Int) := by omega
      rw [List.take_of_length_le (Nat.le_refl _)] at Hr
      go_wp2_with fail
      go_end0
      exact ⟨rfl, Hr.tail⟩
end Go.Proofs.YtgnmnaclndkmdaaGreatDoor
namespace Go.Proofs.YtgnmnaclndkmdaaGreatDoor
open Go.RowKit

set_option maxRecDepth 100000 in
set_option maxHeartbeats 4000000 in
theorem number_w {w : World} {l : List HA} {wb : Nat} {L : List Tk} (n : Int) (hL : L.length ≤ 1001000) (H : HS w (wA wb L :: l)) :
    Calls Tryz.prog 96 #[.pointer (some ⟨wb, 0, none⟩), .int .i64 n] w fun e w' => e = .returned (.tuple #[]) ∧ HS w' (wA wb (L ++ [numK n]) :: l) := by
  obtain ⟨A, c, H2⟩ := H.wOpen (wb := wb) (L := L) (by with_reducible repeat constructor)
  have dB := HS.box (z := wb) H2 (by with_reducible repeat constructor); have dL := Box.lt dB; obtain ⟨hcB, hfB⟩ := Box.cells dB; have d0 := hcB 0; have df0 := hfB 0; clear hcB hfB
  clear H
  go_enter Tryz.func96, Tryz.ntmps96
  go_wp2_with (at_builtin; refine wpList_appAny (v := .slice A L.length c) rfl _ _ stTk (by rfl) (by rfl) ((H2.alloc #[.int .i64 2, .string ⟨#[]⟩, .int .i64 n, .int .i64 0] 83).row (v := .slice A L.length c) (by with_reducible repeat constructor)) (by rfl) (news := [.int .i64 2, .string ⟨#[]⟩, .int .i64 n, .int .i64 0]) (by rfl) (litRd (heap_alloc_new _ _)) (fun h => by cases h) (by intro u hu; simp at hu; (repeat' (rcases hu with rfl | hu)); all_goals (first | rfl | (subst hu; rfl))) (by omega) (by first | exact Nat.zero_le _ | omega | (simp; omega)) ?_; intro vA wA ownA gA atA; have H3 := (H2.alloc #[.int .i64 2, .string ⟨#[]⟩, .int .i64 n, .int .i64 0] 83).app (v := .slice A L.length c) (by with_reducible repeat constructor) ownA gA atA; have kB := HS.box (z := wb) H3 (by with_reducible repeat constructor); have kL := Box.lt kB; obtain ⟨hcB, hfB⟩ := Box.cells kB; have k0 := hcB 0; have kf0 := hfB 0; clear hcB hfB; obtain ⟨AB, cB, rfl, -, -⟩ := own_slice ownA; clear ownA gA atA)
  go_end0
  refine ⟨rfl, ?_⟩
  exact (HS.wPush rfl ((H3.storeTo (z := wb) (by with_reducible repeat constructor) 0 (.slice AB (L.length + 1) cB) #[.slice AB (L.length + 1) cB] rfl).sub (l' := boxA wb #[.slice AB (L.length + 1) cB] 70 :: rowA 83 4 (.slice AB (L.length + 1) cB) (L.length + 1) (L.flatMap Tk.cells ++ [.int .i64 2, .string ⟨#[]⟩, .int .i64 n, .int .i64 0]) :: l) (by with_reducible repeat constructor))).sub (by with_reducible repeat constructor)
set_option maxRecDepth 100000 in
theorem columnName_c {w : World} {LA DA : Option Addr} {ln lc rn rc : Nat} {left right : List Bs} (c : Nat) (hL : RowB w w.heap.size LA ln left) (hD : RowB w w.heap.size DA rn right) (_hln : ln ≤ 1000000) (hrn : rn ≤ 1000000) (hc : c < ln + rn) :
    Calls Tryz.prog 19 #[.int .i64 (c : Int), .slice LA ln lc, .slice DA rn rc] w fun e w' => e = .returned (.string ⟨(colName left right c).toArray⟩) ∧ w' = w := by
  have hll := hL.len
  have hrl := hD.len
  have h0 : (0 : Int) ≤ (c : Int) := by omega
  by_cases hlt : c < ln
  · obtain ⟨b, off, s, rfl, hb, hs, hcell⟩ := hL.at_ 1 (fun _ => rfl) (by omega) hlt
    have hcell := hcell 0 _ rfl
    rw [Nat.mul_one, Nat.add_zero] at hcell
    have HN := Lib.hid (show colName left right c = s by unfold colName; rw [if_pos (by omega), List.getD_eq_getElem?_getD, hs]; rfl)
    have h1 : (c : Int) < (ln : Int) := by omega
    clear hs hL hD hll hrl
    go_enter Tryz.func19, Tryz.ntmps19
    go_wp2_with fail
    go_ret
    exact ⟨by rw [HN.out]; rfl, rfl⟩
  · obtain ⟨b, off, s, rfl, hb, hs, hcell⟩ := hD.at_ 1 (fun _ => rfl) (by omega) (show c - ln < rn by omega)
    have hcell := hcell 0 _ rfl
    rw [Nat.mul_one, Nat.add_zero] at hcell
    have HN := Lib.hid (show colName left right c = s by unfold colName; rw [if_neg (by omega), List.getD_eq_getElem?_getD, hll, hs]; rfl)
    have h1 : ¬ (c : Int) < (ln : Int) := by omega
    have hw : IntKind.i64.wrap ((c : Int) - (ln : Int)) = ((c - ln : Nat) : Int) := by rw [IntWalk.i64_in _ (by omega)]; omega
    have h2 : (0 : Int) ≤ ((c - ln : Nat) : Int) := by omega
    have h3 : ((c - ln : Nat) : Int) < (rn : Int) := by omega
    clear hs hL hD hll hrl hlt
    go_enter Tryz.func19, Tryz.ntmps19
    go_wp2_with fail
    go_ret
    exact ⟨by rw [HN.out]; rfl, rfl⟩
def words19 : Array Value := #[.string ⟨#[]⟩, .string ⟨#[]⟩, .string ⟨#[]⟩, .string ⟨#[45]⟩, .string ⟨#[43]⟩, .string ⟨#[45]⟩, .string ⟨#[42]⟩, .string ⟨#[47]⟩, .string ⟨#[43, 43]⟩, .string ⟨#[108, 101, 110, 103, 116, 104]⟩, .string ⟨#[112, 114, 101, 102, 105, 120]⟩, .string ⟨#[61]⟩, .string ⟨#[60]⟩, .string ⟨#[110, 111, 116]⟩, .string ⟨#[97, 110, 100]⟩, .string ⟨#[111, 114]⟩, .string ⟨#[105, 115, 110, 117, 108, 108]⟩, .string ⟨#[99, 111, 97, 108, 101, 115, 99, 101]⟩, .string ⟨#[105, 102]⟩]
theorem words_at (k : Nat) (h1 : 3 ≤ k) (h2 : k ≤ 18) : words19[k]? = some (.string ⟨(opW (k : Int)).toArray⟩) := by
  have h : k = 3 ∨ k = 4 ∨ k = 5 ∨ k = 6 ∨ k = 7 ∨ k = 8 ∨ k = 9 ∨ k = 10 ∨ k = 11 ∨ k = 12 ∨ k = 13 ∨ k = 14 ∨ k = 15 ∨ k = 16 ∨ k = 17 ∨ k = 18 := by omega
  rcases h with rfl | rfl | rfl | rfl | rfl | rfl | rfl | rfl | rfl | rfl | rfl | rfl | rfl | rfl | rfl | rfl <;> rfl
set_option maxRecDepth 100000 in
set_option maxHeartbeats 4000000 in
theorem wordOf_c {w : World} (k : Nat) (h1 : 3 ≤ k) (h2 : k ≤ 18) : Calls Tryz.prog 61 #[.int .i64 (k : Int)] w fun e w' => e = .returned (.string ⟨(opW (k : Int)).toArray⟩) ∧ Below w.heap.size w w' := by
  have hk := words_at k h1 h2
  have hk0 : (0 : Int) ≤ (k : Int) := by omega
  have hk19 : (k : Int) < 19 := by omega
  generalize (⟨(opW (k : Int)).toArray⟩ : ByteArray) = s at hk
  go_enter Tryz.func61, Tryz.ntmps61
  go_wp2_with (first
    | (refine wpList_buildTo rfl _ _ rfl words19 (by as_aux_lemma => kernel_rfl) ?_)
    | (refine wpList_store_row rfl 173 (.tmp 3) (.tmp 4) rfl w.heap.size words19 rfl rfl 173 _ (heap_alloc_new w _) (by as_aux_lemma => kernel_rfl) (by as_aux_lemma => kernel_rfl) (by as_aux_lemma => kernel_rfl) ?_
       have hcW := (cell_setRow_same _ w.heap.size k _ words19 _ _ (heap_alloc_new w (.cells #[.string ⟨#[]⟩, .string ⟨#[]⟩, .string ⟨#[]⟩, .string ⟨#[]⟩, .string ⟨#[]⟩, .string ⟨#[]⟩, .string ⟨#[]⟩, .string ⟨#[]⟩, .string ⟨#[]⟩, .string ⟨#[]⟩, .string ⟨#[]⟩, .string ⟨#[]⟩, .string ⟨#[]⟩, .string ⟨#[]⟩, .string ⟨#[]⟩, .string ⟨#[]⟩, .string ⟨#[]⟩, .string ⟨#[]⟩, .string ⟨#[]⟩] 173))).trans hk
       have hbW := below_setRow ((Below.refl w.heap.size w).alloc (Nat.le_refl _) (.cells #[.string ⟨#[]⟩, .string ⟨#[]⟩, .string ⟨#[]⟩, .string ⟨#[]⟩, .string ⟨#[]⟩, .string ⟨#[]⟩, .string ⟨#[]⟩, .string ⟨#[]⟩, .string ⟨#[]⟩, .string ⟨#[]⟩, .string ⟨#[]⟩, .string ⟨#[]⟩, .string ⟨#[]⟩, .string ⟨#[]⟩, .string ⟨#[]⟩, .string ⟨#[]⟩, .string ⟨#[]⟩, .string ⟨#[]⟩, .string ⟨#[]⟩] 173)) (Nat.le_refl _) words19
       generalize World.setRow _ _ _ = W at hcW hbW ⊢))
  go_ret
  exact ⟨rfl, by (repeat (first | (with_reducible exact Below.refl _ _) | (with_reducible assumption) | (with_reducible refine Below.drew ?_) | (with_reducible refine below_drewN ?_ _) | ((with_reducible refine Below.setCell ?_ ?_ _); rotate_left; (focus (first | (simp; done) | (simp; omega) | omega))) | ((with_reducible refine Below.alloc ?_ ?_ _); rotate_left; (focus (first | (simp; done) | (simp; omega) | omega))) | ((with_reducible apply below_step1); (focus (with_reducible assumption)))))⟩
end Go.Proofs.YtgnmnaclndkmdaaGreatDoor
namespace Go.Proofs.YtgnmnaclndkmdaaGreatDoor
open Go.RowKit

set_option maxRecDepth 100000 in
set_option maxHeartbeats 4000000 in
theorem isBare_c {w : World} (eb : Nat) (t : T) (neg : Bool) (h1 : 1 ≤ t.op) (h2 : t.op ≤ 18) : Calls Tryz.prog 97 #[.pointer (some ⟨eb, 0, none⟩), .agg #[.int .i64 t.op, .int .i64 t.v.k, .int .i64 t.v.n, .string t.v.s, .int .i64 t.c], .bool neg] w fun e w' => e = .returned (.bool (bareW t neg)) ∧ Below w.heap.size w w' := by
  obtain ⟨op, ⟨k, n, s⟩, c⟩ := t
  dsimp only at h1 h2 ⊢
  have hb : ∀ o, Below w.heap.size w (w.alloc o) := fun o => (Below.refl _ _).alloc (Nat.le_refl _) o
  have h : op = 1 ∨ op = 2 ∨ op = 3 ∨ op = 4 ∨ op = 5 ∨ op = 6 ∨ op = 7 ∨ op = 8 ∨ op = 9 ∨ op = 10 ∨ op = 11 ∨ op = 12 ∨ op = 13 ∨ op = 14 ∨ op = 15 ∨ op = 16 ∨ op = 17 ∨ op = 18 := by omega
  clear h1 h2
  rcases h with rfl | rfl | rfl | rfl | rfl | rfl | rfl | rfl | rfl | rfl | rfl | rfl | rfl | rfl | rfl | rfl | rfl | rfl
  · by_cases hk : k = 2
    · subst hk
      rw [show bareW ⟨1, ⟨2, n, s⟩, c⟩ neg = true by simp [bareW]]
      go_enter Tryz.func97, Tryz.ntmps97
      go_wp2_with fail
      go_ret
      exact ⟨rfl, hb _⟩
    · have hk1 : (k == 2) = false := by simpa using hk
      by_cases hn : 0 ≤ n
      · cases neg with
        | true =>
          rw [show bareW ⟨1, ⟨k, n, s⟩, c⟩ true = false by simp [bareW, hk]]
          clear hk
          go_enter Tryz.func97, Tryz.ntmps97
          go_wp2_with fail
          go_ret
          exact ⟨rfl, hb _⟩
        | false =>
          rw [show bareW ⟨1, ⟨k, n, s⟩, c⟩ false = true by simp [bareW, hn]]
          clear hk
          go_enter Tryz.func97, Tryz.ntmps97
          go_wp2_with fail
          go_ret
          exact ⟨rfl, hb _⟩
      · have HR := Lib.hid (show bareW ⟨1, ⟨k, n, s⟩, c⟩ neg = false by simp [bareW, hk, hn])
        clear hk
        rw [HR.out]
        go_enter Tryz.func97, Tryz.ntmps97
        go_wp2_with fail
        go_ret
        exact ⟨rfl, hb _⟩
  · rw [show bareW ⟨2, ⟨k, n, s⟩, c⟩ neg = true by simp [bareW, isFun]]
    go_enter Tryz.func97, Tryz.ntmps97
    go_wp2_with fail
    go_ret
    exact ⟨rfl, hb _⟩
  · rw [show bareW ⟨3, ⟨k, n, s⟩, c⟩ neg = false by simp [bareW, isFun]]
    go_enter Tryz.func97, Tryz.ntmps97
    go_wp2_with fail
    go_ret
    exact ⟨rfl, hb _⟩
  · rw [show bareW ⟨4, ⟨k, n, s⟩, c⟩ neg = false by simp [bareW, isFun]]
    go_enter Tryz.func97, Tryz.ntmps97
    go_wp2_with fail
    go_ret
    exact ⟨rfl, hb _⟩
  · rw [show bareW ⟨5, ⟨k, n, s⟩, c⟩ neg = false by simp [bareW, isFun]]
    go_enter Tryz.func97, Tryz.ntmps97
    go_wp2_with fail
    go_ret
    exact ⟨rfl, hb _⟩
  · rw [show bareW ⟨6, ⟨k, n, s⟩, c⟩ neg = false by simp [bareW, isFun]]
    go_enter Tryz.func97, Tryz.ntmps97
    go_wp2_with fail
    go_ret
    exact ⟨rfl, hb _⟩
  · rw [show bareW ⟨7, ⟨k, n, s⟩, c⟩ neg = false by simp [bareW, isFun]]
    go_enter Tryz.func97, Tryz.ntmps97
    go_wp2_with fail
    go_ret
    exact ⟨rfl, hb _⟩
  · rw [show bareW ⟨8, ⟨k, n, s⟩, c⟩ neg = false by simp [bareW, isFun]]
    go_enter Tryz.func97, Tryz.ntmps97
    go_wp2_with fail
    go_ret
    exact ⟨rfl, hb _⟩
  · rw [show bareW ⟨9, ⟨k, n, s⟩, c⟩ neg = true by simp [bareW, isFun]]
    go_enter Tryz.func97, Tryz.ntmps97
    go_wp2_with fail
    go_ret
    exact ⟨rfl, hb _⟩
  · rw [show bareW ⟨10, ⟨k, n, s⟩, c⟩ neg = true by simp [bareW, isFun]]
    go_enter Tryz.func97, Tryz.ntmps97
    go_wp2_with fail
    go_ret
    exact ⟨rfl, hb _⟩
  · rw [show bareW ⟨11, ⟨k, n, s⟩, c⟩ neg = false by simp [bareW, isFun]]
    go_enter Tryz.func97, Tryz.ntmps97
    go_wp2_with fail
    go_ret
    exact ⟨rfl, hb _⟩
  · rw [show bareW ⟨12, ⟨k, n, s⟩, c⟩ neg = false by simp [bareW, isFun]]
    go_enter Tryz.func97, Tryz.ntmps97
    go_wp2_with fail
    go_ret
    exact ⟨rfl, hb _⟩
  · rw [show bareW ⟨13, ⟨k, n, s⟩, c⟩ neg = false by simp [bareW, isFun]]
    go_enter Tryz.func97, Tryz.ntmps97
    go_wp2_with fail
    go_ret
    exact ⟨rfl, hb _⟩
  · rw [show bareW ⟨14, ⟨k, n, s⟩, c⟩ neg = false by simp [bareW, isFun]]
    go_enter Tryz.func97, Tryz.ntmps97
    go_wp2_with fail
    go_ret
    exact ⟨rfl, hb _⟩
  · rw [show bareW ⟨15, ⟨k, n, s⟩, c⟩ neg = false by simp [bareW, isFun]]
    go_enter Tryz.func97, Tryz.ntmps97
    go_wp2_with fail
    go_ret
    exact ⟨rfl, hb _⟩
  · rw [show bareW ⟨16, ⟨k, n, s⟩, c⟩ neg = true by simp [bareW, isFun]]
    go_enter Tryz.func97, Tryz.ntmps97
    go_wp2_with fail
    go_ret
    exact ⟨rfl, hb _⟩
  · rw [show bareW ⟨17, ⟨k, n, s⟩, c⟩ neg = true by simp [bareW, isFun]]
    go_enter Tryz.func97, Tryz.ntmps97
    go_wp2_with fail
    go_ret
    exact ⟨rfl, hb _⟩
  · rw [show bareW ⟨18, ⟨k, n, s⟩, c⟩ neg = true by simp [bareW, isFun]]
    go_enter Tryz.func97, Tryz.ntmps97
    go_wp2_with fail
    go_ret
    exact ⟨rfl, hb _⟩
end Go.Proofs.YtgnmnaclndkmdaaGreatDoor
