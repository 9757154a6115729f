/- resolve, where the first view has a left store that isn't declared, in a catalogue without tables. Maps from strings as parts of memory: a set, and numbers. Keys of at most maxLen bytes. Small functions of the check of catalogues: within, isType, find, declare, add. Names of at most 2^40 bytes, at most 1000000 of them. The names and types of the columns of a table, collected: collect and its functions. At most 1000000 columns. add of a checker, and the search for an earlier column with a name. At most 1000000 columns and stores. -/
import Derived.Test.YtpnfbehbheddeaaGreatDoorBn35
import Derived.Test.YtpnfbehbheddeaaGreatDoorBn34
import Derived.Maps.OwnSet
import Derived.StringKeys
import Derived.Test.YtpnfbehbheddeaaGreatDoorBn12
import Derived.Test.YtpnfbehbheddeaaGreatDoorBn32
namespace Go.Proofs.YtpnfbehbheddeaaGreatDoor
set_option maxRecDepth 100000
set_option maxHeartbeats 8000000
set_option linter.unusedVariables false
set_option linter.unusedSimpArgs false
open Go.RowKit
theorem resolveViewL_s {w : World} {l : List HA} {zs pb nv : Nat} {gn cn : Nat} {Vv sv cv : Value} {oA iA aA rA po : Option Addr} {on oc iN ic aN ac rN rc : Nat} {ds : Array Value} {vxs : List Value} (x : Vn)
    (hv : vxs ≠ []) (h7 : ds[7]? = some Vv) (h23 : ds[23]? = some (.slice (some ⟨gn, 0, none⟩) nv cn)) (hn : 0 < nv) (hnv : nv ≤ 1000000) (hnx : ∀ (j : Nat) (u : Value), (nc0 x.left x.right (.slice oA on oc) (.slice iA iN ic) (.slice aA aN ac) (.pointer po) (.slice rA rN rc)).toList[j]? = some u → w.cell? ⟨gn, j, none⟩ = some u)
    (H : HS w (boxA zs #[sv, cv] 143 :: rowA 9 1 sv 0 [] :: rowA 25 1 cv 0 [] :: boxA pb ds 69 :: rowA 206 9 Vv nv vxs :: l)) :
    Calls Tryz.prog 90 #[.pointer (some ⟨pb, 6, none⟩), .pointer (some ⟨zs, 0, none⟩), .int .i64 0] w fun e w' => e = .returned (.tuple #[.int .i64 x.left.pos, .int .i64 7]) ∧ HS w' l := by
  obtain ⟨Av, kv, rfl⟩ := H.slice (v := Vv) pkQ
  obtain ⟨gv, rfl, hgv, -, -⟩ := H.rowAt (A := Av) pkQ hv
  have n0 := hnx 0 _ rfl
  have n1 := hnx 1 _ rfl
  have n2 := hnx 2 _ rfl
  have n3 := hnx 3 _ rfl
  have n4 := hnx 4 _ rfl
  have n5 := hnx 5 _ rfl
  have n6 := hnx 6 _ rfl
  have n7 := hnx 7 _ rfl
  have n8 := hnx 8 _ rfl
  have n9 := hnx 9 _ rfl
  have n10 := hnx 10 _ rfl
  have n11 := hnx 11 _ rfl
  have n12 := hnx 12 _ rfl
  obtain ⟨dB, dL, hcB⟩ := HS.get (z := pb) H; obtain ⟨d7, df7⟩ := hcB 7; obtain ⟨d23, df23⟩ := hcB 23; clear hcB
  rw [h7] at d7
  rw [h23] at d23
  have hk : (0 : Int) < (nv : Int) := by omega
  have HA := (H.alloc (nc0 x.left x.right (.slice oA on oc) (.slice iA iN ic) (.slice aA aN ac) (.pointer po) (.slice rA rN rc)) 210).drew
  have hF := find_c (sc := []) x.left (by simp) (HA.sub (l' := boxA zs #[sv, cv] 143 :: rowA 9 1 sv ([] : Sq).length (([] : Sq).map fun x => strV x.1) :: rowA 25 1 cv ([] : Sq).length (([] : Sq).map fun x => x.2.1) :: []) (by simp only [List.length_nil, List.map_nil]; exact pkQ))
  unfold nc0 at HA hF
  rw [show fdR [] x.left = (.slice none 0 0, x.left.pos, 7) from rfl] at hF
  unfold FindPost at hF
  dsimp only at hF
  clear hnx
  go_enter Tryz.func90, Tryz.ntmps90
  go_upto_region 1 with fail
  (refine wp_region_G 16 (fun w' => w'.cell? ⟨pb, 7, none⟩ = some (.slice (some ⟨gv, 0, none⟩) nv kv) ∧ w'.cell? ⟨pb, 23, none⟩ = some (.slice (some ⟨gn, 0, none⟩) nv cn) ∧ w'.cell? ⟨gn, 0, none⟩ = some (.int .i64 x.left.kind) ∧ w'.cell? ⟨gn, 1, none⟩ = some (.string ⟨x.left.text.toArray⟩) ∧ w'.cell? ⟨gn, 2, none⟩ = some (.int .i64 x.left.int) ∧ w'.cell? ⟨gn, 3, none⟩ = some (.int .i64 x.left.pos) ∧ w'.cell? ⟨gn, 4, none⟩ = some (.int .i64 x.right.kind) ∧ w'.cell? ⟨gn, 5, none⟩ = some (.string ⟨x.right.text.toArray⟩) ∧ w'.cell? ⟨gn, 6, none⟩ = some (.int .i64 x.right.int) ∧ w'.cell? ⟨gn, 7, none⟩ = some (.int .i64 x.right.pos) ∧ w'.cell? ⟨gn, 8, none⟩ = some (.slice oA on oc) ∧ w'.cell? ⟨gn, 9, none⟩ = some (.slice iA iN ic) ∧ w'.cell? ⟨gn, 10, none⟩ = some (.slice aA aN ac) ∧ w'.cell? ⟨gn, 11, none⟩ = some (.pointer po) ∧ w'.cell? ⟨gn, 12, none⟩ = some (.slice rA rN rc)) (by kernel_rfl) ?_ (fun hHeld => ?_); (focus (try dsimp only); go_keep))
  (refine GG.k 0 ?_; refine GG.k 1 ?_; refine GG.k 2 ?_; refine GG.k 3 ?_; refine GG.k 4 ?_; refine GG.k 5 ?_; refine GG.k 6 ?_; refine GG.k 7 ?_; refine GG.k 8 ?_; refine GG.k 9 ?_; refine GG.k 10 ?_; refine GG.k 11 ?_; refine GG.k 12 ?_; refine GG.k 13 ?_)
  (refine GG.o 14 (fun K hK => ?_); go_simp; refine hK.out _ _ ?_ (fun hHeld => ?_); (focus (try dsimp only); go_keep); clear hK K; (try simp only [Act.put, qqa, qqb, qqc]))
  (refine GG.k 15 ?_)
  (refine GG.l (fun K hK => ?_); go_simp; refine hK.out _ _ ?_; clear hK K)
  clear n0 n1 n2 n3 n4 n5 n6 n7 n8 n9 n10 n11 n12 d7 d23 df7 df23 dB dL H hHeld
  obtain ⟨gB, gL, hcB⟩ := HS.get (z := w.heap.size) HA; obtain ⟨g0, gf0⟩ := hcB 0; obtain ⟨g1, gf1⟩ := hcB 1; obtain ⟨g2, gf2⟩ := hcB 2; obtain ⟨g3, gf3⟩ := hcB 3; clear hcB
  go_wp2_with (go_at_call 145; (with_reducible refine hF.mono ?_); rintro e w4 ⟨rfl, hb4⟩; have H4 := HA.below hb4)
  go_ret2
  exact ⟨rfl, H4.sub pkQ⟩
theorem resolveV_s {w : World} {l : List HA} {pb nv k1 : Nat} {gn cn : Nat} {A1 : Option Addr} {Vv : Value} {oA iA aA rA po : Option Addr} {on oc iN ic aN ac rN rc : Nat} {ds : Array Value} {vxs nxs : List Value} (x : Vn)
    (hv : vxs ≠ []) (h6 : ds[6]? = some (.slice A1 0 k1)) (h7 : ds[7]? = some Vv) (h23 : ds[23]? = some (.slice (some ⟨gn, 0, none⟩) nv cn)) (hn : 0 < nv) (hnv : nv ≤ 1000000) (hnx : ∀ (j : Nat) (u : Value), (nc0 x.left x.right (.slice oA on oc) (.slice iA iN ic) (.slice aA aN ac) (.pointer po) (.slice rA rN rc)).toList[j]? = some u → nxs[j]? = some u)
    (H : HS w (boxA pb ds 69 :: rowA 206 9 Vv nv vxs :: rowA 210 13 (.slice (some ⟨gn, 0, none⟩) nv cn) nv nxs :: l)) :
    Calls Tryz.prog 48 #[.pointer (some ⟨pb, 6, none⟩)] w fun e w' => e = .returned (.tuple #[.int .i64 x.left.pos, .int .i64 7]) ∧ HS w' l := by
  obtain ⟨Av, kv, rfl⟩ := H.slice (v := Vv) pkQ
  have H1 := H.alloc #[.slice none 0 0, .slice none 0 0] 143
  obtain ⟨dB, dL, hcB⟩ := HS.get (z := pb) H1; obtain ⟨d6, df6⟩ := hcB 6; obtain ⟨d7, df7⟩ := hcB 7; clear hcB
  rw [h6] at d6
  rw [h7] at d7
  have hk : (0 : Int) < (nv : Int) := by omega
  have Hw := (H1.rowNil 9 1).rowNil 25 1
  have hnx2 : ∀ (j : Nat) (u : Value), (nc0 x.left x.right (.slice oA on oc) (.slice iA iN ic) (.slice aA aN ac) (.pointer po) (.slice rA rN rc)).toList[j]? = some u → (w.alloc (.cells #[.slice none 0 0, .slice none 0 0] 143)).cell? ⟨gn, j, none⟩ = some u := fun j u hu => by
    obtain ⟨g, e, -, hc, -⟩ := Hw.rowAt (A := some ⟨gn, 0, none⟩) (n := nv) (c := cn) (xs := nxs) pkQ (fun e => by have := hnx 0 _ rfl; rw [e] at this; cases this)
    injection e with e
    injection e with e _ _
    subst e
    exact hc _ _ (hnx j u hu)
  have hR := resolveViewL_s (l := l) (zs := w.heap.size) x hv h7 h23 hn hnv hnx2 (Hw.sub pkQ)
  clear H H1 Hw hnx hnx2
  go_enter Tryz.func48, Tryz.ntmps48
  go_upto_region 3 with fail
  go_loopw [32] (fun v32 wr => v32 = .int .i64 0 ∧ wr = w.alloc (.cells #[.slice none 0 0, .slice none 0 0] 143)) (fun _ _ => 0)
  case atStart => exact ⟨rfl, rfl⟩
  case round =>
    obtain ⟨rfl, rfl⟩ := hrel
    go_upto_region 10 with fail
    go_loopw [52] (fun v52 wr => v52 = .int .i64 0 ∧ wr = w.alloc (.cells #[.slice none 0 0, .slice none 0 0] 143)) (fun _ _ => 0)
    case atStart => exact ⟨rfl, rfl⟩
    case round =>
      obtain ⟨rfl, rfl⟩ := hrel
      go_wp2_with (go_at_call 90; (with_reducible refine hR.mono ?_); rintro e w4 ⟨rfl, H4⟩)
      go_ret2
      exact ⟨rfl, H4⟩
open Go.Maps Go.WideMaps
theorem keyS : Keyed Tryz.prog 9 := string_keyed Tryz.underlying9
theorem zeroB (w : World) : (zeroValue 4).run Tryz.prog w = .ok (.bool false) w := by kernel_rfl
theorem zeroI (w : World) : (zeroValue 3).run Tryz.prog w = .ok (.int .i64 0) w := by kernel_rfl
abbrev Dw := DataW Unit
def keyL (s : Bs) : Lit := .string s
theorem keyL_is (s : Bs) : WideAt.IsKeyLit (keyL s) := trivial
theorem key_of {s : Bs} (h : s.length ≤ maxLen) : keyOf Tryz.prog 9 (.string ⟨s.toArray⟩) = some (keyL s) := (keyOf_string_mk Tryz.underlying9 (s := ⟨s.toArray⟩) (by show s.toArray.size ≤ _; simpa using h)).trans (by simp [keyL])
theorem keyL_ne {a b : Bs} (h : a ≠ b) : keyL a ≠ keyL b := fun e => h (by injection e)
def mapB (z : Nat) (l : List Bs) : HA where
  holds w S := (∃ D : Dw, w.ownsMap Tryz.prog 9 (plainElem Tryz.prog 4) z l.length D ∧ ∀ s, D.atKey (keyL s) (.lit (.bool false)) = .lit (.bool (l.contains s))) ∧ S = (· = z)
  keep := by
    rintro w w' S ⟨⟨D, ⟨es, clock, hb, r⟩, h⟩, rfl⟩ g
    exact ⟨⟨D, ⟨es, clock, (g.block z rfl).trans hb, r⟩, h⟩, rfl⟩
  lt := by
    rintro w S ⟨⟨D, h, -⟩, rfl⟩ k rfl
    exact h.lt
def mapI (z n : Nat) (g : Bs → Option Nat) : HA where
  holds w S := (∃ D : Dw, w.ownsMap Tryz.prog 9 (plainElem Tryz.prog 3) z n D ∧ (∀ s, Maps.has D (keyL s) = (g s).isSome) ∧ ∀ s, D.atKey (keyL s) (.lit (.int .i64 0)) = .lit (.int .i64 (((g s).getD 0 : Nat) : Int))) ∧ S = (· = z)
  keep := by
    rintro w w' S ⟨⟨D, ⟨es, clock, hb, r⟩, h⟩, rfl⟩ g
    exact ⟨⟨D, ⟨es, clock, (g.block z rfl).trans hb, r⟩, h⟩, rfl⟩
  lt := by
    rintro w S ⟨⟨D, h, -⟩, rfl⟩ k rfl
    exact h.lt
section
variable {w : World} {l l' : List HA} {z n : Nat} {q : List Bs} {g : Bs → Option Nat}
theorem HS.mapLook (H : HS w l) (hp : Pick l (mapB z q) l') {s : Bs} (hs : s.length ≤ maxLen) : (Instr.lookup 221 (.map (some z)) (.string ⟨s.toArray⟩) false).run Tryz.prog w = .ok (.bool (q.contains s)) w := by
  obtain ⟨S, ⟨D, h, h2⟩, -⟩ := (H.pick hp).head
  obtain ⟨v, ps, hrun, hv⟩ := h.lookup keyS Tryz.underlying221 (zeroB w) (plainElem_bool Tryz.underlying4 false) (key_of hs)
  rw [h2] at hv
  have : v = .bool (q.contains s) := by
    unfold plainElem at hv
    rw [Tryz.underlying4] at hv
    cases v <;> simp at hv ⊢
    exact hv.1
  rw [← this]
  exact hrun
theorem HS.mapLookI (H : HS w l) (hp : Pick l (mapI z n g) l') {s : Bs} (hs : s.length ≤ maxLen) : (Instr.lookup 222 (.map (some z)) (.string ⟨s.toArray⟩) true).run Tryz.prog w = .ok (.tuple #[.int .i64 (((g s).getD 0 : Nat) : Int), .bool (g s).isSome]) w := by
  obtain ⟨S, ⟨D, h, h1, h2⟩, -⟩ := (H.pick hp).head
  obtain ⟨v, ps, hrun, hv⟩ := h.look_ok keyS Tryz.underlying222 (zeroI w) (plainElem_int Tryz.underlying3 (by decide)) (key_of hs)
  rw [h2] at hv
  obtain ⟨a, rfl, e, -⟩ := plainElem_int_inv Tryz.underlying3 hv
  simp only [Prod.mk.injEq, DataW.lit.injEq, Lit.int.injEq, true_and] at e
  rw [← h1, e.1]
  exact hrun
end
section
variable {w : World} {l l' : List HA} {z n : Nat} {q : List Bs} {g : Bs → Option Nat}
theorem HS.mapPut (H : HS w l) (hp : Pick l (mapB z q) l') {s : Bs} (hs : s.length ≤ maxLen) (hq : q.length < maxLen) : ∃ w', (Instr.mapUpdate 221 (.map (some z)) (.string ⟨s.toArray⟩) (.bool true)).run Tryz.prog w = .ok () w' ∧ HS w' (mapB z (q ++ [s]) :: l') := by
  obtain ⟨S, ⟨⟨D, h, h2⟩, rfl⟩, h3⟩ := (H.pick hp).go
  obtain ⟨w', hr, ho, ht⟩ := h.store keyS Tryz.underlying221 hq (key_of hs) (plainElem_bool Tryz.underlying4 true)
  refine ⟨w', hr, h3 _ _ _ ((PFr.refl _ _).grown ht.grown fun k hk _ => (by injection hk with hk; exact hk.symm)) ⟨⟨_, by rw [List.length_append]; exact ho, fun t => ?_⟩, rfl⟩ fun k hk => .inl hk⟩
  by_cases e : t = s
  · subst e
    rw [Maps.atKey_put_same h.isMap (keyL_is _)]
    simp
  · rw [Maps.atKey_put_other (keyL_ne e), h2]
    simp [e]
theorem HS.mapPutI (H : HS w l) (hp : Pick l (mapI z n g) l') {s : Bs} (hs : s.length ≤ maxLen) (hn : n < maxLen) (m : Nat) (hm : m ≤ 1000000) : ∃ w', (Instr.mapUpdate 222 (.map (some z)) (.string ⟨s.toArray⟩) (.int .i64 (m : Int))).run Tryz.prog w = .ok () w' ∧ HS w' (mapI z (n + 1) (fun t => if t = s then some m else g t) :: l') := by
  obtain ⟨S, ⟨⟨D, h, h1, h2⟩, rfl⟩, h3⟩ := (H.pick hp).go
  have hw : (Lit.int .i64 (m : Int)).wf = true := by
    simp [Lit.wf, IntKind.min, IntKind.max, IntKind.signed, IntKind.bits]
    omega
  obtain ⟨w', hr, ho, ht⟩ := h.store keyS Tryz.underlying222 hn (key_of hs) (plainElem_int Tryz.underlying3 hw)
  refine ⟨w', hr, h3 _ _ _ ((PFr.refl _ _).grown ht.grown fun k hk _ => (by injection hk with hk; exact hk.symm)) ⟨⟨_, ho, fun t => ?_, fun t => ?_⟩, rfl⟩ fun k hk => .inl hk⟩
  · by_cases e : t = s
    · subst e
      rw [Maps.has_put_same h.isMap (keyL_is _)]
      simp
    · rw [Maps.has_put_other (keyL_ne e), h1]
      simp [e]
  · by_cases e : t = s
    · subst e
      rw [Maps.atKey_put_same h.isMap (keyL_is _)]
      simp
    · rw [Maps.atKey_put_other (keyL_ne e), h2]
      simp [e]
theorem HS.mapNew (H : HS w l) : HS (w.alloc (.map #[] 0)) (mapB w.heap.size [] :: l) :=
  H.new ((Below.refl _ _).alloc (Nat.le_refl _) _) (S' := (· = w.heap.size)) ⟨⟨_, World.ownsMap_made w _ _ _, fun _ => rfl⟩, rfl⟩ fun k hk => (by rw [hk]; exact Nat.le_refl _)
theorem HS.mapNewI (H : HS w l) : HS (w.alloc (.map #[] 0)) (mapI w.heap.size 0 (fun _ => none) :: l) :=
  H.new ((Below.refl _ _).alloc (Nat.le_refl _) _) (S' := (· = w.heap.size)) ⟨⟨_, World.ownsMap_made w _ _ _, fun _ => rfl, fun _ => rfl⟩, rfl⟩ fun k hk => (by rw [hk]; exact Nat.le_refl _)
end
theorem within_c (n a b : Int) (w : World) : Calls Tryz.prog 202 #[.int .i64 n, .int .i64 a, .int .i64 b] w fun e w' => e = .returned (.bool (withinI n a b)) ∧ w = w' := by
  by_cases h1 : a ≤ n
  · by_cases h2 : n ≤ b
    · have HR := Lib.hid (show withinI n a b = true by simp [withinI, h1, h2])
      go_enter Tryz.func202, Tryz.ntmps202
      go_wp2_with fail
      go_ret
      exact ⟨ret_bool HR.out.symm, rfl⟩
    · have HR := Lib.hid (show withinI n a b = false by simp [withinI, h2])
      go_enter Tryz.func202, Tryz.ntmps202
      go_wp2_with fail
      go_ret
      exact ⟨ret_bool HR.out.symm, rfl⟩
  · have HR := Lib.hid (show withinI n a b = false by simp [withinI, h1])
    go_enter Tryz.func202, Tryz.ntmps202
    go_wp2_with fail
    go_ret
    exact ⟨ret_bool HR.out.symm, rfl⟩
def isTypeB (k : Int) : Bool := k == 1 || k == 2
theorem isType_c (k : Int) (w : World) : Calls Tryz.prog 247 #[.int .i64 k] w fun e w' => e = .returned (.bool (isTypeB k)) ∧ w = w' := by
  by_cases h1 : k = 1
  · subst h1
    go_enter Tryz.func247, Tryz.ntmps247
    go_wp2_with fail
    go_ret
    exact ⟨rfl, rfl⟩
  · have t1 : (k == 1) = false := by simpa using h1
    have HR := Lib.hid (show isTypeB k = (k == 2) by unfold isTypeB; rw [t1]; rfl)
    clear h1
    go_enter Tryz.func247, Tryz.ntmps247
    go_wp2_with fail
    go_ret
    exact ⟨ret_bool HR.out.symm, rfl⟩
def ckC (c : Fin 8 → Value) (zb zi : Nat) (st : Value) : Array Value := #[c 0, c 1, c 2, c 3, c 4, c 5, c 6, c 7, .map (some zb), .map (some zi), st]
section
variable {w : World} {l l' : List HA} {zk zb zi n : Nat} {c : Fin 8 → Value} {st : Value} {q : List Bs} {g : Bs → Option Nat}
theorem find_k (s : Bs) (hs : s.length ≤ 1000000) (H : HS w (boxA zk (ckC c zb zi st) 225 :: mapI zi n g :: l)) :
    Calls Tryz.prog 209 #[.pointer (some ⟨zk, 0, none⟩), .string ⟨s.toArray⟩] w fun e w' => e = .returned (.int .i64 (match g s with | some k => (k : Int) | none => -1)) ∧ w' = w := by
  have hml : s.length ≤ maxLen := by unfold maxLen; omega
  have hlk := H.mapLookI (z := zi) (n := n) (g := g) pkQ hml
  obtain ⟨dB, dL, hcB⟩ := HS.get (z := zk) H; obtain ⟨d9, df9⟩ := hcB 9; clear hcB; unfold ckC at d9
  cases hg : g s with
  | none =>
    rw [hg] at hlk
    clear hg
    go_enter Tryz.func209, Tryz.ntmps209
    go_wp2_with fail
    go_ret
    exact ⟨rfl, rfl⟩
  | some k =>
    rw [hg] at hlk
    clear hg
    go_enter Tryz.func209, Tryz.ntmps209
    go_wp2_with fail
    go_ret
    exact ⟨rfl, rfl⟩
theorem declare_s (s : Bs) (hs : s.length ≤ 1000000) (hq : q.length ≤ 1000000) (H : HS w (boxA zk (ckC c zb zi st) 225 :: mapB zb q :: l)) :
    Calls Tryz.prog 201 #[.pointer (some ⟨zk, 0, none⟩), .string ⟨s.toArray⟩] w fun e w' => e = .returned (.int .i64 (declC ⟨q, []⟩ s)) ∧ HS w' (boxA zk (ckC c zb zi st) 225 :: mapB zb (if declC ⟨q, []⟩ s = 0 then q ++ [s] else q) :: l) := by
  have hN := xisName ⟨s.toArray⟩ w (by show s.toArray.size ≤ _; simp; omega)
  have hml : s.length ≤ maxLen := by unfold maxLen; omega
  have hlk := H.mapLook (z := zb) (q := q) pkQ hml
  obtain ⟨w2, hup, H2⟩ := H.mapPut (z := zb) (q := q) pkQ hml (by unfold maxLen; omega)
  obtain ⟨dB, dL, hcB⟩ := HS.get (z := zk) H; obtain ⟨d8, df8⟩ := hcB 8; clear hcB; unfold ckC at d8
  unfold declC
  dsimp only at hN ⊢
  cases hn : isNameB s with
  | false =>
    rw [hn] at hN
    clear hlk hup H2
    go_enter Tryz.func201, Tryz.ntmps201
    go_wp2_with (go_at_call 32; refine hN.mono ?_; rintro e w1 ⟨rfl, rfl⟩)
    go_ret
    exact ⟨rfl, H⟩
  | true =>
    rw [hn] at hN
    cases hc : q.contains s with
    | true =>
      rw [hc] at hlk
      clear hup H2
      go_enter Tryz.func201, Tryz.ntmps201
      go_wp2_with (go_at_call 32; refine hN.mono ?_; rintro e w1 ⟨rfl, rfl⟩)
      go_ret
      exact ⟨rfl, H⟩
    | false =>
      rw [hc] at hlk
      go_enter Tryz.func201, Tryz.ntmps201
      go_wp2_with (go_at_call 32; refine hN.mono ?_; rintro e w1 ⟨rfl, rfl⟩)
      go_ret
      exact ⟨rfl, H2.sub pkQ⟩
end
theorem tname_c (c : Col) (v : Value) (A : Option Addr) (n k : Nat) (hv : v = .slice A n k) (w : World) : Calls Tryz.prog 206 #[.agg (colC c v)] w fun e w' => e = .returned (.string ⟨c.name.toArray⟩) ∧ Below w.heap.size w w' := by
  subst hv
  unfold colC
  have hz := heap_alloc_new w (.cells #[.string ⟨c.name.toArray⟩, .int .i64 c.ty, .string ⟨c.ns.toArray⟩, .string ⟨c.rf.toArray⟩, .slice A n k, .int .i64 c.joint, .int .i64 c.duty] 82)
  have hb : Below w.heap.size w (w.alloc (.cells #[.string ⟨c.name.toArray⟩, .int .i64 c.ty, .string ⟨c.ns.toArray⟩, .string ⟨c.rf.toArray⟩, .slice A n k, .int .i64 c.joint, .int .i64 c.duty] 82)) := by (exact belQ)
  go_enter Tryz.func206, Tryz.ntmps206
  go_wp2_with fail
  go_ret
  exact ⟨rfl, hb⟩
theorem ttype_c (c : Col) (v : Value) (A : Option Addr) (n k : Nat) (hv : v = .slice A n k) (w : World) : Calls Tryz.prog 208 #[.agg (colC c v)] w fun e w' => e = .returned (.int .i64 c.ty) ∧ Below w.heap.size w w' := by
  subst hv
  unfold colC
  have hz := heap_alloc_new w (.cells #[.string ⟨c.name.toArray⟩, .int .i64 c.ty, .string ⟨c.ns.toArray⟩, .string ⟨c.rf.toArray⟩, .slice A n k, .int .i64 c.joint, .int .i64 c.duty] 82)
  have hb : Below w.heap.size w (w.alloc (.cells #[.string ⟨c.name.toArray⟩, .int .i64 c.ty, .string ⟨c.ns.toArray⟩, .string ⟨c.rf.toArray⟩, .slice A n k, .int .i64 c.joint, .int .i64 c.duty] 82)) := by (exact belQ)
  go_enter Tryz.func208, Tryz.ntmps208
  go_wp2_with fail
  go_ret
  exact ⟨rfl, hb⟩
def CnPost (X : List Co) (l : List HA) (e : Ending) (w' : World) : Prop := ∃ A c, e = .returned (.slice A X.length c) ∧ HS w' (rowA 9 1 (.slice A X.length c) X.length (X.map fun x => strV x.1.name) :: l)
def CtPost (X : List Co) (l : List HA) (e : Ending) (w' : World) : Prop := ∃ A c, e = .returned (.slice A X.length c) ∧ HS w' (rowA 3 1 (.slice A X.length c) X.length (X.map fun x => Value.int .i64 x.1.ty) :: l)
theorem collectN_s {w : World} {l l' : List HA} {A : Option Addr} {k : Nat} {X : List Co} (hn : X.length ≤ 1000000) (hs : ∀ x ∈ X, ∃ A n c, x.2 = .slice A n c) (H : HS w l) (hp : Pick l (rowA 82 7 (.slice A X.length k) X.length (coC X)) l') :
    Calls Tryz.prog 205 #[.slice A X.length k, .func (.func 206) #[] #[]] w (CnPost X l) := by
  have HSS := Lib.hid hs
  have Hw := H.rowNil 9 1
  clear hs H
  go_enter Tryz.func205, Tryz.ntmps205
  go_upto_region 3 with fail
  go_loopw [5, 10] (fun v5 v10 wr => ∃ i : Nat, v10 = .int .i64 (i : Int) ∧ i ≤ X.length ∧ HS wr (rowA 9 1 v5 i ((X.take i).map fun x => strV x.1.name) :: l)) (fun _ v10 _ => X.length - (intOf v10).toNat)
  case atStart => exact ⟨0, rfl, by omega, Hw⟩
  case round =>
    obtain ⟨i, rfl, hi, Hr⟩ := hrel
    clear Hw
    obtain ⟨A5, c5, rfl⟩ := Hr.slice (v := u5) pkQ
    by_cases hlt : i < X.length
    · have h1 : (i : Int) < (X.length : Int) := by omega
      have h0 : (0 : Int) ≤ (i : Int) := by omega
      obtain ⟨⟨c, v⟩, hc⟩ : ∃ x, X[i]? = some x := ⟨_, List.getElem?_eq_getElem hlt⟩
      obtain ⟨Av, nv, cv, e⟩ := HSS.out _ (List.mem_of_getElem? hc)
      dsimp only at e
      subst e
      have hS : (X.take (i + 1)).map (fun x => strV x.1.name) = (X.take i).map (fun x => strV x.1.name) ++ [.string ⟨c.name.toArray⟩] := by rw [List.take_add_one, hc, List.map_append]; rfl
      obtain ⟨gc, eA, hgc, hcc, -⟩ := Hr.rowAt (A := A) (.there hp) (fun e => by have := coC_at hc 0 _ rfl; rw [e] at this; cases this)
      subst eA
      have q0 := hcc _ _ (coC_at hc 0 _ rfl)
      have q1 := hcc _ _ (coC_at hc 1 _ rfl)
      have q2 := hcc _ _ (coC_at hc 2 _ rfl)
      have q3 := hcc _ _ (coC_at hc 3 _ rfl)
      have q4 := hcc _ _ (coC_at hc 4 _ rfl)
      have q5 := hcc _ _ (coC_at hc 5 _ rfl)
      have q6 := hcc _ _ (coC_at hc 6 _ rfl)
      rw [Nat.add_zero] at q0
      have HS2 := Lib.hid hS
      have hF := fun w1 => tname_c c _ Av nv cv rfl w1
      unfold colC at hF
      clear hS hcc hc
      go_upto_region 5 with fail
      obtain ⟨z, w1, ez, ew, H1⟩ := Hr.alloc_ex (colC c (.slice Av nv cv)) 82
      unfold colC at ew
      rw [ew, ez]
      clear ez ew q0 q1 q2 q3 q4 q5 q6
      obtain ⟨xB, xL, hcB⟩ := HS.get (z := z) H1; obtain ⟨x0, xf0⟩ := hcB 0; obtain ⟨x1, xf1⟩ := hcB 1; obtain ⟨x2, xf2⟩ := hcB 2; obtain ⟨x3, xf3⟩ := hcB 3; obtain ⟨x4, xf4⟩ := hcB 4; obtain ⟨x5, xf5⟩ := hcB 5; obtain ⟨x6, xf6⟩ := hcB 6; clear hcB; unfold colC at x0 x1 x2 x3 x4 x5 x6
      go_wp2_with (first
        | (go_at_call 206; (with_reducible refine (hF w1).mono ?_); rintro e w2 ⟨rfl, hb2⟩; have H2 := H1.below hb2)
        | (at_builtin; refine wpList_appAny (v := .slice A5 i c5) rfl _ _ stS (by rfl) (by rfl) ((H2.alloc #[.string ⟨c.name.toArray⟩] 9).row (v := .slice A5 i c5) pkQ) (by rfl) (news := [.string ⟨c.name.toArray⟩]) (by rfl) (litRd (heap_alloc_new _ _)) (fun h => by cases h) (by intro u hu; simp at hu; (repeat' (rcases hu with rfl | hu)); all_goals (first | rfl | (subst hu; rfl))) (by omega) (by first | exact Nat.zero_le _ | omega | (simp; omega)) ?_; intro vA wA ownA gA atA; have H3 := (H2.alloc #[.string ⟨c.name.toArray⟩] 9).app (v := .slice A5 i c5) pkQ ownA gA atA))
      go_roundw
      case rel =>
        refine ⟨i + 1, by go_num, by omega, ?_⟩
        rw [HS2.out]
        exact H3.sub pkQ
      case measure => simp [intOf]; omega
    · obtain rfl : i = X.length := by omega
      rw [List.take_of_length_le (Nat.le_refl _)] at Hr
      have h1 : ¬ (X.length : Int) < (X.length : Int) := by omega
      go_wp2_with fail
      go_ret
      exact ⟨A5, c5, rfl, Hr⟩
theorem collectT_s {w : World} {l l' : List HA} {A : Option Addr} {k : Nat} {X : List Co} (hn : X.length ≤ 1000000) (hs : ∀ x ∈ X, ∃ A n c, x.2 = .slice A n c) (H : HS w l) (hp : Pick l (rowA 82 7 (.slice A X.length k) X.length (coC X)) l') :
    Calls Tryz.prog 207 #[.slice A X.length k, .func (.func 208) #[] #[]] w (CtPost X l) := by
  have HSS := Lib.hid hs
  have Hw := H.rowNil 3 1
  clear hs H
  go_enter Tryz.func207, Tryz.ntmps207
  go_upto_region 3 with fail
  go_loopw [5, 10] (fun v5 v10 wr => ∃ i : Nat, v10 = .int .i64 (i : Int) ∧ i ≤ X.length ∧ HS wr (rowA 3 1 v5 i ((X.take i).map fun x => Value.int .i64 x.1.ty) :: l)) (fun _ v10 _ => X.length - (intOf v10).toNat)
  case atStart => exact ⟨0, rfl, by omega, Hw⟩
  case round =>
    obtain ⟨i, rfl, hi, Hr⟩ := hrel
    clear Hw
    obtain ⟨A5, c5, rfl⟩ := Hr.slice (v := u5) pkQ
    by_cases hlt : i < X.length
    · have h1 : (i : Int) < (X.length : Int) := by omega
      have h0 : (0 : Int) ≤ (i : Int) := by omega
      obtain ⟨⟨c, v⟩, hc⟩ : ∃ x, X[i]? = some x := ⟨_, List.getElem?_eq_getElem hlt⟩
      obtain ⟨Av, nv, cv, e⟩ := HSS.out _ (List.mem_of_getElem? hc)
      dsimp only at e
      subst e
      have hS : (X.take (i + 1)).map (fun x => Value.int .i64 x.1.ty) = (X.take i).map (fun x => Value.int .i64 x.1.ty) ++ [.int .i64 c.ty] := by rw [List.take_add_one, hc, List.map_append]; rfl
      obtain ⟨gc, eA, hgc, hcc, -⟩ := Hr.rowAt (A := A) (.there hp) (fun e => by have := coC_at hc 0 _ rfl; rw [e] at this; cases this)
      subst eA
      have q0 := hcc _ _ (coC_at hc 0 _ rfl)
      have q1 := hcc _ _ (coC_at hc 1 _ rfl)
      have q2 := hcc _ _ (coC_at hc 2 _ rfl)
      have q3 := hcc _ _ (coC_at hc 3 _ rfl)
      have q4 := hcc _ _ (coC_at hc 4 _ rfl)
      have q5 := hcc _ _ (coC_at hc 5 _ rfl)
      have q6 := hcc _ _ (coC_at hc 6 _ rfl)
      rw [Nat.add_zero] at q0
      have HS2 := Lib.hid hS
      have hF := fun w1 => ttype_c c _ Av nv cv rfl w1
      unfold colC at hF
      clear hS hcc hc
      go_upto_region 5 with fail
      obtain ⟨z, w1, ez, ew, H1⟩ := Hr.alloc_ex (colC c (.slice Av nv cv)) 82
      unfold colC at ew
      rw [ew, ez]
      clear ez ew q0 q1 q2 q3 q4 q5 q6
      obtain ⟨xB, xL, hcB⟩ := HS.get (z := z) H1; obtain ⟨x0, xf0⟩ := hcB 0; obtain ⟨x1, xf1⟩ := hcB 1; obtain ⟨x2, xf2⟩ := hcB 2; obtain ⟨x3, xf3⟩ := hcB 3; obtain ⟨x4, xf4⟩ := hcB 4; obtain ⟨x5, xf5⟩ := hcB 5; obtain ⟨x6, xf6⟩ := hcB 6; clear hcB; unfold colC at x0 x1 x2 x3 x4 x5 x6
      go_wp2_with (first
        | (go_at_call 208; (with_reducible refine (hF w1).mono ?_); rintro e w2 ⟨rfl, hb2⟩; have H2 := H1.below hb2)
        | (at_builtin; refine wpList_appAny (v := .slice A5 i c5) rfl _ _ stI (by rfl) (by rfl) ((H2.alloc #[.int .i64 c.ty] 3).row (v := .slice A5 i c5) pkQ) (by rfl) (news := [.int .i64 c.ty]) (by rfl) (litRd (heap_alloc_new _ _)) (fun h => by cases h) (by intro u hu; simp at hu; (repeat' (rcases hu with rfl | hu)); all_goals (first | rfl | (subst hu; rfl))) (by omega) (by first | exact Nat.zero_le _ | omega | (simp; omega)) ?_; intro vA wA ownA gA atA; have H3 := (H2.alloc #[.int .i64 c.ty] 3).app (v := .slice A5 i c5) pkQ ownA gA atA))
      go_roundw
      case rel =>
        refine ⟨i + 1, by go_num, by omega, ?_⟩
        rw [HS2.out]
        exact H3.sub pkQ
      case measure => simp [intOf]; omega
    · obtain rfl : i = X.length := by omega
      rw [List.take_of_length_le (Nat.le_refl _)] at Hr
      have h1 : ¬ (X.length : Int) < (X.length : Int) := by omega
      go_wp2_with fail
      go_ret
      exact ⟨A5, c5, rfl, Hr⟩
theorem stCl : SliceTy Tryz.prog 223 274 2 48 := SliceTy.mk' Tryz.underlying223 (z := .agg #[.slice none 0 0, .slice none 0 0]) (by kernel_rfl) rfl (by decide) (by decide)
section
variable {w : World} {l : List HA} {zk zb zi n m : Nat} {c : Fin 8 → Value} {sv : Value} {xs : List Value} {g : Bs → Option Nat}
theorem add_s (s : Bs) (hs : s.length ≤ 1000000) (hn : n ≤ 1000000) (hm : m ≤ 1000000) (A1 A2 : Option Addr) (n1 c1 n2 c2 : Nat) (H : HS w (boxA zk (ckC c zb zi sv) 225 :: mapI zi n g :: rowA 274 2 sv m xs :: l)) :
    Calls Tryz.prog 204 #[.pointer (some ⟨zk, 0, none⟩), .string ⟨s.toArray⟩, .agg #[.slice A1 n1 c1, .slice A2 n2 c2]] w fun e w' => e = .returned (.tuple #[]) ∧ ∃ sv', HS w' (boxA zk (ckC c zb zi sv') 225 :: mapI zi (n + 1) (fun t => if t = s then some m else g t) :: rowA 274 2 sv' (m + 1) (xs ++ [.slice A1 n1 c1, .slice A2 n2 c2]) :: l) := by
  obtain ⟨As, cs, rfl⟩ := H.slice (v := sv) pkQ
  have hml : s.length ≤ maxLen := by unfold maxLen; omega
  have H1 := (H.alloc #[.slice A1 n1 c1, .slice A2 n2 c2] 274).drew
  obtain ⟨w2, hup, H2⟩ := H1.mapPutI (z := zi) (n := n) (g := g) pkQ hml (by unfold maxLen; omega) m hm
  obtain ⟨dB, dL, hcB⟩ := HS.get (z := zk) H1; obtain ⟨d9, df9⟩ := hcB 9; obtain ⟨d10, df10⟩ := hcB 10; clear hcB; unfold ckC at d9 d10
  have H3 := H2.drew
  obtain ⟨eB, eL, hcB⟩ := HS.get (z := zk) H2; obtain ⟨e10, ef10⟩ := hcB 10; clear hcB; unfold ckC at e10
  obtain ⟨fB, fL, hcB⟩ := HS.get (z := w.heap.size) H2; obtain ⟨f0, ff0⟩ := hcB 0; obtain ⟨f1, ff1⟩ := hcB 1; clear hcB
  clear H H1 H2
  go_enter Tryz.func204, Tryz.ntmps204
  go_upto_region 1 with fail
  (refine wp_region_G 10 (fun w' => w'.cell? ⟨zk, 9, none⟩ = some (.map (some zi)) ∧ w'.cell? ⟨zk, 10, none⟩ = some (.slice As m cs)) (by kernel_rfl) ?_ (fun hHeld => ?_); (focus (try dsimp only); go_keep))
  (refine GG.k 0 ?_; refine GG.k 1 ?_; refine GG.k 2 ?_; refine GG.k 3 ?_; refine GG.k 4 ?_; refine GG.k 5 ?_; refine GG.k 6 ?_; refine GG.k 7 ?_; refine GG.k 8 ?_; refine GG.k 9 ?_)
  (refine GG.l (fun K hK => ?_); go_simp; refine hK.out _ _ ?_; clear hK K)
  go_upto_region 2 with fail
  (refine wp_region_G 10 (fun w' => w'.cell? ⟨zk, 10, none⟩ = some (.slice As m cs) ∧ w'.cell? ⟨w.heap.size, 0, none⟩ = some (.slice A1 n1 c1) ∧ w'.cell? ⟨w.heap.size, 1, none⟩ = some (.slice A2 n2 c2)) (by kernel_rfl) ?_ (fun hHeld => ?_); (focus (try dsimp only); go_keep))
  (refine GG.k 0 ?_; refine GG.k 1 ?_; refine GG.k 2 ?_; refine GG.k 3 ?_; refine GG.k 4 ?_; refine GG.k 5 ?_)
  have H4 := H3.alloc #[.slice A1 n1 c1, .slice A2 n2 c2] 274
  have own7 := H4.row (v := .slice As m cs) pkQ
  (refine GG.o 6 (fun K hK => ?_); go_simp; refine hK.out _ _ ?_ (fun hHeld => ?_); (focus (try dsimp only); go_keep); clear hK K; (try simp only [Act.put, qqa, qqb, qqc]))
  (refine GG.o 7 (fun K hK => ?_); (refine step_app3 (v := .slice As m cs) (by rfl) _ _ stCl (by rfl) (by rfl) own7 (by rfl) (news := [.slice A1 n1 c1, .slice A2 n2 c2]) (by rfl) (litRd (heap_alloc_new _ _)) (fun h => by cases h) (by intro u hu; simp at hu; (repeat' (rcases hu with rfl | hu)); all_goals (first | rfl | (subst hu; rfl))) (by omega) (by first | exact Nat.zero_le _ | omega | (simp; omega)) ?_; intro vA wA ownA gA atA; have H5 := H4.app (v := .slice As m cs) pkQ ownA gA atA; obtain ⟨hB, hL, hcB⟩ := HS.get (z := zk) H5; obtain ⟨h10, hf10⟩ := hcB 10; clear hcB; unfold ckC at h10; obtain ⟨kB, kL, hcB⟩ := HS.get (z := w.heap.size) H5; obtain ⟨k0, kf0⟩ := hcB 0; obtain ⟨k1, kf1⟩ := hcB 1; clear hcB; obtain ⟨AB, cB, rfl, -, -⟩ := own_slice ownA; clear ownA gA atA); refine hK.out _ _ ?_ (fun hHeld => ?_); (focus (try dsimp only); go_keep); clear hK K; (try simp only [Act.put, qqa, qqb, qqc]))
  (refine GG.k 8 ?_; refine GG.k 9 ?_)
  (refine GG.l (fun K hK => ?_); go_simp; refine hK.out _ _ ?_; clear hK K)
  go_end0
  exact ⟨rfl, .slice AB (m + 1) cB, (H5.storeTo (z := zk) pkQ 10 (.slice AB (m + 1) cB) (ckC c zb zi (.slice AB (m + 1) cB)) rfl).sub pkQ⟩
end
end Go.Proofs.YtpnfbehbheddeaaGreatDoor
