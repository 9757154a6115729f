/- Contract of view. The numbers of the tokens are from 0 to 2^32. -/
import Derived.Test.YtpnfbehbheddeaaGreatDoorBn25
namespace Go.Proofs.YtpnfbehbheddeaaGreatDoor
set_option maxRecDepth 100000
set_option maxHeartbeats 8000000
set_option linter.unusedVariables false
set_option linter.unusedSimpArgs false
open Go.RowKit
theorem xsC_nil : xsC [] = [] := rfl
theorem agsC_nil : agsC [] = [] := rfl
def pushN (ns : Nat → Nat) (i : Nat) : Nat → Nat := fun j => if j = i then ns i + 1 else ns j
def pushC (cs : Nat → List Value) (i : Nat) (new : List Value) : Nat → List Value := fun j => if j = i then cs i ++ new else cs j
theorem HS.push {p : Pp} {w w' : World} {s : Ps} {ns : Nat → Nat} {cs : Nat → List Value} {pool : Pool} {l l' : List HA} (H : HS w l) (hp : Pick l (dA p s ns cs pool) l') {i : Nat} (hi : i < 21) {A : Option Addr} {n c : Nat} (hv : p.rowV i = .slice A n c) {v' : Value} {new : List Value} (ho : w'.ownsRow (p.pb + 1) (rty i) (rsz i) v' (ns i + 1) (cs i ++ new)) (hg : w.grownBy w' (Value.slice A n c).ownBlock) (hat : v'.ownBlock = (Value.slice A n c).ownBlock ∨ v'.ownBlock = some w.heap.size) :
    HS (w'.setCell ⟨p.pb, 6 + i, none⟩ v') (dA (p.withRow i v') s (pushN ns i) (pushC cs i new) pool :: l') := H.pushed hp hi hv ho hg hat
theorem HS.appOthers {p : Pp} {w w' : World} {s : Ps} {ns : Nat → Nat} {cs : Nat → List Value} {pool : Pool} {l l' : List HA} (H : HS w l) (hp : Pick l (dA p s ns cs pool) l') {i : Nat} (hi : i < 21) {A : Option Addr} {n c : Nat} (hv : p.rowV i = .slice A n c) (hg : w.grownBy w' (Value.slice A n c).ownBlock) : HS w' l' := by
  obtain ⟨S, ⟨rv, h, hq, rfl⟩, h2⟩ := (H.pick hp).go
  rw [← hv] at hg
  exact (h2 w' (pureA True) (fun _ => False) ((PFr.refl _ _).grown hg fun k hk _ => .inr (.inr (.inr (.inl ⟨i, hi, hk⟩)))) ⟨trivial, rfl⟩ fun k hk => hk.elim).tail
theorem HS.rown {p : Pp} {w : World} {s : Ps} {ns : Nat → Nat} {cs : Nat → List Value} {pool : Pool} {l l' : List HA} (H : HS w l) (hp : Pick l (dA p s ns cs pool) l') {i : Nat} (hi : i < 21) {A : Option Addr} {n c : Nat} (hv : p.rowV i = .slice A n c) : w.ownsRow (p.pb + 1) (rty i) (rsz i) (.slice A n c) (ns i) (cs i) := by
  obtain ⟨S, rv, h, -⟩ := (H.pick hp).head
  exact hv ▸ h.rows i hi
section
variable {p : Pp} {w w' : World} {s : Ps} {ns : Nat → Nat} {cs : Nat → List Value} {pool : Pool} {l l' : List HA} {i j : Nat} {v : Value} {new : List Value}
theorem pushN_ne (h : j ≠ i) : pushN ns i j = ns j := if_neg h
theorem pushC_ne (h : j ≠ i) : pushC cs i new j = cs j := if_neg h
theorem HS.rcell2 (H : HS w l) (hp : Pick l (dA (p.withRow i v) s (pushN ns i) (pushC cs i new) pool) l') (hj : j < 21) (hji : j ≠ i) : ∃ A c, (p.withRow i v).rowV j = .slice A (ns j) c ∧ w.cell? ⟨p.pb, 6 + j, none⟩ = some (.slice A (ns j) c) ∧ p.pb < w.heap.size := by
  obtain ⟨A, c, hv, hc, -, hl, -⟩ := H.rcell hp hj
  rw [pushN_ne hji] at hv hc
  exact ⟨A, c, hv, hc, hl⟩
theorem HS.rown2 (H : HS w l) (hp : Pick l (dA (p.withRow i v) s (pushN ns i) (pushC cs i new) pool) l') (hj : j < 21) (hji : j ≠ i) {A : Option Addr} {c : Nat} (hv : (p.withRow i v).rowV j = .slice A (ns j) c) : w.ownsRow (p.pb + 1) (rty j) (rsz j) (.slice A (ns j) c) (ns j) (cs j) := by
  have h := H.rown hp hj hv
  rw [pushN_ne hji, pushC_ne hji] at h
  exact h
theorem HS.after2 (H : HS w l) (hp : Pick l (dA (p.withRow i v) s (pushN ns i) (pushC cs i new) pool) l') (hj : j < 21) {A : Option Addr} {n c : Nat} (hv : (p.withRow i v).rowV j = .slice A n c) (hg : w.grownBy w' (Value.slice A n c).ownBlock) : w'.cell? ⟨p.pb, 6 + j, none⟩ = some (.slice A n c) ∧ w'.frozen? ⟨p.pb, 6 + j, none⟩ = false ∧ p.pb < w'.heap.size := H.after hp hj hv hg
theorem HS.push2 (H : HS w l) (hp : Pick l (dA (p.withRow i v) s (pushN ns i) (pushC cs i new) pool) l') (hj : j < 21) (hji : j ≠ i) {A : Option Addr} {n c : Nat} (hv : (p.withRow i v).rowV j = .slice A n c) {v' : Value} {new2 : List Value} (ho : w'.ownsRow (p.pb + 1) (rty j) (rsz j) v' (ns j + 1) (cs j ++ new2)) (hg : w.grownBy w' (Value.slice A n c).ownBlock) (hat : v'.ownBlock = (Value.slice A n c).ownBlock ∨ v'.ownBlock = some w.heap.size) :
    HS (w'.setCell ⟨p.pb, 6 + j, none⟩ v') (dA ((p.withRow i v).withRow j v') s (pushN (pushN ns i) j) (pushC (pushC cs i new) j new2) pool :: l') := by
  rw [← pushN_ne (ns := ns) hji, ← pushC_ne (cs := cs) (new := new) hji] at ho
  exact H.push hp hj hv ho hg hat
end
theorem stVw : SliceTy Tryz.prog 53 206 9 160 := SliceTy.mk' Tryz.underlying53 (z := .agg #[.string ⟨#[]⟩, .int .i64 0, .string ⟨#[]⟩, .string ⟨#[]⟩, .slice none 0 0, .slice none 0 0, .slice none 0 0, .bool false, .slice none 0 0]) (by kernel_rfl) rfl (by decide) (by decide)
theorem stVn : SliceTy Tryz.prog 64 210 13 184 := SliceTy.mk' Tryz.underlying64 (z := .agg #[.int .i64 0, .string ⟨#[]⟩, .int .i64 0, .int .i64 0, .int .i64 0, .string ⟨#[]⟩, .int .i64 0, .int .i64 0, .slice none 0 0, .slice none 0 0, .slice none 0 0, .pointer none, .slice none 0 0]) (by kernel_rfl) rfl (by decide) (by decide)
structure Vq where
  itv : Value
  agv : Value
  onv : Value
  nv : Value
  nav : Value
  qi : List Xq
  qa : List Xq
  qw : Xq
  c0 : Value
  c1 : Value
def Vq.parts (q : Vq) (v : Viw) (n : Vn) : List HA := [rowA 214 2 q.itv v.items.length (itC (v.items.map Itm.name)), rowA 216 3 q.agv v.aggs.length (agsC v.aggs), rowA 217 8 q.onv n.on.length (onC n.on), rowA 72 2 q.nv q.qi.length (xsC q.qi), rowA 72 2 q.nav q.qa.length (xsC q.qa), allA (q.qi.map xA), allA (q.qa.map xA), xA q.qw]
structure Vq.ok (q : Vq) (n : Vn) (pool : Pool) : Prop where
  i : q.qi.map Prod.fst = n.items
  a : q.qa.map Prod.fst = n.aggs
  w : q.qw.1 = n.whr
  c : xC q.qw = [q.c0, q.c1]
  cp : (∃ b, q.c0 = .pointer b) ∧ ∃ A n c, q.c1 = .slice A n c
  pi : ∀ x ∈ q.qi, XOk pool x
  pa : ∀ x ∈ q.qa, XOk pool x
  pw : XOk pool q.qw
def VMid (p : Pp) (ns : Nat → Nat) (cs : Nat → List Value) (pool0 : Pool) (b1 zv zn : Nat) (l : List HA) (r : (Viw × Vn) × Ps) (w : World) : Prop :=
  ∃ (pool : Pool) (q : Vq), HS w (dA p r.2 ns cs pool :: boxA b1 (ptrC p.pb) 50 :: boxA zv (vc0 r.1.1.name r.1.1.kind [] [] r.1.1.distinct q.itv q.agv) 206 :: boxA zn (nc0 r.1.2.left r.1.2.right q.onv q.nv q.nav q.c0 q.c1) 210 :: (q.parts r.1.1 r.1.2 ++ l)) ∧ q.ok r.1.2 pool ∧ ∀ x ∈ pool0, x ∈ pool
def ViewPost (p : Pp) (ns : Nat → Nat) (cs : Nat → List Value) (pool0 : Pool) (l : List HA) (r : (Viw × Vn) × Ps) (e : Ending) (w : World) : Prop :=
  e = .returned (.tuple #[]) ∧ ∃ (pool : Pool) (q : Vq) (v1 v2 : Value), HS w (dA ((p.withRow 1 v1).withRow 17 v2) r.2 (pushN (pushN ns 1) 17) (pushC (pushC cs 1 (vc0 r.1.1.name r.1.1.kind r.1.2.left.text r.1.2.right.text r.1.1.distinct q.itv q.agv).toList) 17 (nc0 r.1.2.left r.1.2.right q.onv q.nv q.nav q.c0 q.c1).toList) pool :: (q.parts r.1.1 r.1.2 ++ l)) ∧ q.ok r.1.2 pool ∧ ∀ x ∈ pool0, x ∈ pool
section
variable {p : Pp} {w w' : World} {s s' : Ps} {ns : Nat → Nat} {cs : Nat → List Value} {pool : Pool} {l l' : List HA}
theorem view1_c {p : Pp} (hN : p.e.okN) {ns : Nat → Nat} {cs : Nat → List Value} {pool0 : Pool} {b1 zv zn : Nat} {name : Bs} {itv nv : Value} {l : List HA} (w : World) (s : Ps) (acc : List (Agg × Xr)) (hl : acc.length ≤ 100000) (h : AInv p ns cs pool0 zv zn name itv nv (boxA b1 (ptrC p.pb) 50 :: l) w s acc) :
    Calls Tryz.prog 196 #[.pointer (some ⟨b1, 0, none⟩), .pointer (some ⟨zv, 0, none⟩), .pointer (some ⟨zn, 0, none⟩)] w fun e w' => e = .returned (.tuple #[]) ∧ AInv p ns cs pool0 zv zn name itv nv (boxA b1 (ptrC p.pb) 50 :: l) w' (aggP p.e s).2 (acc ++ [(aggP p.e s).1]) := by
  have hA := aggregate_c hN w s acc hl h
  obtain ⟨pool, agv, nav, ags, qs, H, -⟩ := h
  unfold aggsL at H
  obtain ⟨xB, xL, hcB⟩ := HS.get (z := b1) H; obtain ⟨x0, xf0⟩ := hcB 0; clear hcB; unfold ptrC at x0
  clear H
  go_enter Tryz.func196, Tryz.ntmps196
  go_wp2_with (go_at_call 197; (with_reducible refine hA.mono ?_); rintro e w2 ⟨rfl, I2⟩)
  go_end0
  exact ⟨rfl, I2⟩
theorem VMid.mk' {b1 zv zn : Nat} {name : Bs} {kind : Int} {dis : Bool} {its : List (Bs × Xr)} {ags : List (Agg × Xr)} {i : Tk × (Tk × List (Tk × Tk)) × Xr} {pool' : Pool} (q : Vq)
    (H : HS w (dA p s ns cs pool' :: boxA b1 (ptrC p.pb) 50 :: boxA zv (vc0 name kind [] [] dis q.itv q.agv) 206 :: boxA zn (nc0 i.1 i.2.1.1 q.onv q.nv q.nav q.c0 q.c1) 210 :: rowA 214 2 q.itv (its.map Prod.fst).length (itC (its.map Prod.fst)) :: rowA 216 3 q.agv (ags.map Prod.fst).length (agsC (ags.map Prod.fst)) :: rowA 217 8 q.onv i.2.1.2.length (onC i.2.1.2) :: rowA 72 2 q.nv q.qi.length (xsC q.qi) :: rowA 72 2 q.nav q.qa.length (xsC q.qa) :: allA (q.qi.map xA) :: allA (q.qa.map xA) :: xA q.qw :: l))
    (h1 : q.qi.map Prod.fst = its.map Prod.snd) (h2 : q.qa.map Prod.fst = ags.map Prod.snd) (h3 : q.qw.1 = i.2.2) (h4 : xC q.qw = [q.c0, q.c1]) (h8 : (∃ b, q.c0 = .pointer b) ∧ ∃ A n c, q.c1 = .slice A n c) (h5 : ∀ x ∈ q.qi, XOk pool' x) (h6 : ∀ x ∈ q.qa, XOk pool' x) (h7 : XOk pool' q.qw) (hpp : ∀ x ∈ pool, x ∈ pool') :
    VMid p ns cs pool b1 zv zn l (mkView name kind dis its ags i, s) w := by
  refine ⟨pool', q, ?_, ⟨h1, h2, h3, h4, h8, h5, h6, h7⟩, hpp⟩
  unfold mkView Vq.parts
  dsimp only
  rw [List.map_map, List.length_map]
  rw [List.length_map] at H
  exact H
theorem view_s (hN : p.e.okN) (hn1 : ns 1 ≤ 100000) (hn17 : ns 17 ≤ 100000) (H : HS w (dA p s ns cs pool :: l)) :
    Calls Tryz.prog 135 #[.pointer (some ⟨p.pb, 0, none⟩)] w (ViewPost p ns cs pool l (viewP p.e s)) := by
  obtain ⟨R, hR⟩ : ∃ R, viewP p.e s = R := ⟨_, rfl⟩
  rw [hR]
  unfold viewP nameP at hR
  have h1 := fun w1 l1 l2 (H : HS w1 l1) (hp : Pick l1 (dA p s ns cs pool) l2) => name_s H hp
  generalize takeP p.e s 1 = q at h1 hR
  obtain ⟨t1, s1⟩ := q
  unfold PartPost at h1
  dsimp only at h1 hR
  have h2 := fun w1 l1 l2 (H : HS w1 l1) (hp : Pick l1 (dA p s1 ns cs pool) l2) => exp3_s H hp [115, 101, 108, 101, 99, 116] [103, 114, 111, 117, 112] [117, 110, 105, 111, 110]
  rw [show ([wSelect, wGroup, wUnion] : List Bs) = [[115, 101, 108, 101, 99, 116], [103, 114, 111, 117, 112], [117, 110, 105, 111, 110]] from rfl] at hR
  generalize expectP p.e s1 [[115, 101, 108, 101, 99, 116], [103, 114, 111, 117, 112], [117, 110, 105, 111, 110]] = q at h2 hR
  obtain ⟨wd, s2⟩ := q
  unfold PartPost at h2
  dsimp only at h2 hR
  have HR := Lib.hid hR
  clear hR
  go_enter Tryz.func135, Tryz.ntmps135
  go_upto_region 1 with fail
  obtain ⟨b1, w1, ez, ew, H1⟩ := H.alloc_ex (ptrC p.pb) 50
  unfold ptrC at ew
  rw [ew, ez]
  clear ez ew H
  obtain ⟨xB, xL, hcB⟩ := HS.get (z := b1) H1; obtain ⟨x0, xf0⟩ := hcB 0; clear hcB; unfold ptrC at x0
  go_upto_region 2 with (go_at_call 189; (with_reducible refine (h1 _ _ _ H1 pkQ).mono ?_); rintro e w2 ⟨rfl, H2⟩)
  clear xB x0 xf0 xL H1 h1
  obtain ⟨zv, w3, ez, ew, H3⟩ := H2.alloc_ex (vc0 t1.text 0 [] [] false (.slice none 0 0) (.slice none 0 0)) 206
  unfold vc0 at ew
  rw [ew, ez]
  clear ez ew H2
  go_upto_region 3 with fail
  obtain ⟨zn, w4, ez, ew, H4⟩ := H3.alloc_ex (nc0 Tk.zero Tk.zero (.slice none 0 0) (.slice none 0 0) (.slice none 0 0) (.pointer none) (.slice none 0 0)) 210
  unfold nc0 Tk.zero at ew
  dsimp only at ew
  rw [ew, ez]
  clear ez ew H3
  obtain ⟨xB, xL, hcB⟩ := HS.get (z := b1) H4; obtain ⟨x0, xf0⟩ := hcB 0; clear hcB; unfold ptrC at x0
  go_upto_block 0 with (go_at_call 88; (with_reducible refine (h2 _ _ _ H4 pkQ).mono ?_); rintro e w5 ⟨rfl, H5⟩)
  clear xB x0 xf0 xL H4 h2
  go_cut [10] from 11 to 60 (fun _ wx => VMid p ns cs pool b1 zv zn l R wx)
  case first =>
    have hne1 := H5.ne (z := zv) (y := b1) pkQ pkQ
    by_cases e0 : wd = [115, 101, 108, 101, 99, 116]
    · subst e0
      have hR := HR.out
      rw [if_pos (show ([115, 101, 108, 101, 99, 116] : Bs) = wSelect from rfl)] at hR
      obtain ⟨D, hD⟩ : ∃ D, (if isP p.e s2 0 [wDistinct] = true ∧ isP p.e s2 1 [[61]] = false then acceptP p.e s2 [wDistinct] else (false, s2)) = D := ⟨_, rfl⟩
      rw [hD] at hR
      obtain ⟨dis, s3⟩ := D
      dsimp only at hR
      have h3 := fun w1 l1 (H : HS w1 (dA p s3 ns cs pool :: boxA zv (vc0 t1.text 0 [] [] dis (.slice none 0 0) (.slice none 0 0)) 206 :: boxA zn (nc0 Tk.zero Tk.zero (.slice none 0 0) (.slice none 0 0) (.slice none 0 0) (.pointer none) (.slice none 0 0)) 210 :: l1)) => items_s hN H
      generalize listP p.e (itemP p.e) s3 = q at h3 hR
      obtain ⟨its, s4⟩ := q
      unfold ItemsPost at h3
      dsimp only at h3 hR
      have h4 := fun w1 l1 pool nv nav (H : HS w1 (dA p s4 ns cs pool :: boxA zn (nc0 Tk.zero Tk.zero (.slice none 0 0) nv nav (.pointer none) (.slice none 0 0)) 210 :: l1)) => inputs_s hN (.pointer (some ⟨zv, 0, none⟩)) H
      generalize inputsP p.e s4 = q at h4 hR
      obtain ⟨inp, s5⟩ := q
      unfold InpPost at h4
      dsimp only at h4 hR
      subst hR
      clear HR
      have hi0 := fun w1 l1 l2 (H : HS w1 l1) (hp : Pick l1 (dA p s2 ns cs pool) l2) => is01_s H hp [100, 105, 115, 116, 105, 110, 99, 116]
      have hi1 := fun w1 l1 l2 (H : HS w1 l1) (hp : Pick l1 (dA p s2 ns cs pool) l2) => is11_s H hp [61]
      unfold PartPost at hi0 hi1
      obtain ⟨i0, hi⟩ : ∃ i0, isP p.e s2 0 [[100, 105, 115, 116, 105, 110, 99, 116]] = i0 := ⟨_, rfl⟩
      rw [hi] at hi0
      rw [show wDistinct = [100, 105, 115, 116, 105, 110, 99, 116] from rfl, hi] at hD
      clear hi
      obtain ⟨i1, hi⟩ : ∃ i1, isP p.e s2 1 [[61]] = i1 := ⟨_, rfl⟩
      rw [hi] at hi1 hD
      clear hi
      have HD := Lib.hid hD
      clear hD
      obtain ⟨dB, dL, hcB⟩ := HS.get (z := zv) H5; obtain ⟨d1, df1⟩ := hcB 1; clear hcB; unfold vc0 at d1
      go_upto_region 6 with fail
      have H6 := H5.storeTo (z := zv) pkQ 1 (.int .i64 0) (vc0 t1.text 0 [] [] false (.slice none 0 0) (.slice none 0 0)) rfl
      generalize World.setCell _ _ _ = w6 at H6 ⊢
      clear H5 d1 df1 dB dL
      obtain ⟨xB, xL, hcB⟩ := HS.get (z := b1) H6; obtain ⟨x0, xf0⟩ := hcB 0; clear hcB; unfold ptrC at x0
      go_cut [21] from 13 to 20 (fun v21 wx => v21 = .bool (i0 && !i1) ∧ HS wx (dA p s2 ns cs pool :: boxA zv (vc0 t1.text 0 [] [] false (.slice none 0 0) (.slice none 0 0)) 206 :: boxA zn (nc0 Tk.zero Tk.zero (.slice none 0 0) (.slice none 0 0) (.slice none 0 0) (.pointer none) (.slice none 0 0)) 210 :: boxA b1 (ptrC p.pb) 50 :: l))
      case first =>
        cases i0
        · go_wp2_with (go_at_call 130; (with_reducible refine (hi0 _ _ _ H6 pkQ).mono ?_); rintro e w7 ⟨rfl, H7⟩)
          go_meet
          exact ⟨rfl, H7.sub pkQ⟩
        · cases i1
          · go_wp2_with (first
              | (go_at_call 130; (with_reducible refine (hi0 _ _ _ H6 pkQ).mono ?_); rintro e w7 ⟨rfl, H7⟩; obtain ⟨yB, yL, hcB⟩ := HS.get (z := b1) H7; obtain ⟨y0, yf0⟩ := hcB 0; clear hcB; unfold ptrC at y0)
              | (go_at_call 130; (with_reducible refine (hi1 _ _ _ H7 pkQ).mono ?_); rintro e w8 ⟨rfl, H8⟩))
            go_meet
            exact ⟨rfl, H8.sub pkQ⟩
          · go_wp2_with (first
              | (go_at_call 130; (with_reducible refine (hi0 _ _ _ H6 pkQ).mono ?_); rintro e w7 ⟨rfl, H7⟩; obtain ⟨yB, yL, hcB⟩ := HS.get (z := b1) H7; obtain ⟨y0, yf0⟩ := hcB 0; clear hcB; unfold ptrC at y0)
              | (go_at_call 130; (with_reducible refine (hi1 _ _ _ H7 pkQ).mono ?_); rintro e w8 ⟨rfl, H8⟩))
            go_meet
            exact ⟨rfl, H8.sub pkQ⟩
      case rest =>
        obtain ⟨rfl, H7⟩ := hcut
        clear H6 hi0 hi1 xB x0 xf0 xL
        go_upto_if 21 with fail
        go_cut [21, 22] from 23 to 25 (fun _ _ wx => HS wx (dA p s3 ns cs pool :: boxA zv (vc0 t1.text 0 [] [] dis (.slice none 0 0) (.slice none 0 0)) 206 :: boxA zn (nc0 Tk.zero Tk.zero (.slice none 0 0) (.slice none 0 0) (.slice none 0 0) (.pointer none) (.slice none 0 0)) 210 :: boxA b1 (ptrC p.pb) 50 :: l))
        case first =>
          have hA := fun w1 l1 l2 (H : HS w1 l1) (hp : Pick l1 (dA p s2 ns cs pool) l2) => acc1_s H hp [100, 105, 115, 116, 105, 110, 99, 116]
          unfold PartPost at hA
          have hD := HD.out
          cases hb : (i0 && !i1)
          · rw [if_neg (by rintro ⟨rfl, rfl⟩; cases hb)] at hD
            obtain ⟨rfl, rfl⟩ : dis = false ∧ s3 = s2 := ⟨(congrArg Prod.fst hD).symm, (congrArg Prod.snd hD).symm⟩
            clear hD hA
            go_wp2_with fail
            go_meet
            exact H7
          · rw [if_pos (by revert hb; cases i0 <;> cases i1 <;> simp)] at hD
            rw [hD] at hA
            clear hD
            obtain ⟨xB, xL, hcB⟩ := HS.get (z := b1) H7; obtain ⟨x0, xf0⟩ := hcB 0; clear hcB; unfold ptrC at x0
            go_wp2_with (go_at_call 142; (with_reducible refine (hA _ _ _ H7 pkQ).mono ?_); rintro e w8 ⟨rfl, H8⟩; obtain ⟨yB, yL, hcB⟩ := HS.get (z := zv) H8; obtain ⟨y7, yf7⟩ := hcB 7; clear hcB; unfold vc0 at y7)
            go_meet
            exact (H8.storeTo (z := zv) pkQ 7 (.bool dis) (vc0 t1.text 0 [] [] dis (.slice none 0 0) (.slice none 0 0)) rfl).sub pkQ
        case rest =>
          have H8 := hcut
          clear hcut H7 HD
          obtain ⟨xB, xL, hcB⟩ := HS.get (z := b1) H8; obtain ⟨x0, xf0⟩ := hcB 0; clear hcB; unfold ptrC at x0
          go_wp2_with (first
            | (go_at_call 194; (with_reducible refine (h3 _ _ H8).mono ?_); rintro e w9 ⟨rfl, pool2, itv, nv, names, qs, H9, hn, hq, hok, hpp⟩; have HN := Lib.hid hn; have HQ := Lib.hid hq; clear hn hq; obtain ⟨yB, yL, hcB⟩ := HS.get (z := b1) H9; obtain ⟨y0, yf0⟩ := hcB 0; clear hcB; unfold ptrC at y0)
            | (go_at_call 195; (with_reducible refine (h4 _ _ _ _ _ ((H9.pick (A := boxA zn (nc0 Tk.zero Tk.zero (.slice none 0 0) nv (.slice none 0 0) (.pointer none) (.slice none 0 0)) 210) pkQ).pick (A := dA p s4 ns cs pool2) pkQ)).mono ?_); rintro e w10 ⟨rfl, pool3, onv, a, v, c0, c1, hc, hcp, H10, hok2, hpp2⟩; have HC := Lib.hid hc; have HP := Lib.hid hcp; clear hc hcp))
          go_meet
          have hn := HN.out
          subst hn
          have h := HS.mkAll (m := []) ((H10.rowNil 216 3).rowNil 72 2)
          exact VMid.mk' ⟨itv, .slice none 0 0, onv, nv, .slice none 0 0, qs, [], (inp.2.2, a, v), c0, c1⟩ (h.sub (by
            simp only [xsC, agsC, List.length_nil, List.flatMap_nil, List.map_nil]
            exact pkQ)) HQ.out rfl rfl HC.out HP.out (fun x hx => (hok x hx).imp_right (hpp2 _)) (fun x hx => by cases hx) hok2 fun x hx => hpp2 _ (hpp x hx)
    have bb0 : (wd == [115, 101, 108, 101, 99, 116]) = false := by simpa using e0
    by_cases e1 : wd = [103, 114, 111, 117, 112]
    · subst e1
      have hR := HR.out
      rw [if_neg (show ¬ ([103, 114, 111, 117, 112] : Bs) = wSelect by decide), if_pos (show ([103, 114, 111, 117, 112] : Bs) = wGroup from rfl)] at hR
      obtain ⟨D, hD⟩ : ∃ D, (if isP p.e s2 0 [wWith] = false ∨ isP p.e s2 1 [[61]] = true then listP p.e (itemP p.e) s2 else ([], s2)) = D := ⟨_, rfl⟩
      rw [hD] at hR
      obtain ⟨its, s3⟩ := D
      dsimp only at hR
      have h3 := fun w1 l1 (H : HS w1 (dA p s2 ns cs pool :: boxA zv (vc0 t1.text 1 [] [] false (.slice none 0 0) (.slice none 0 0)) 206 :: boxA zn (nc0 Tk.zero Tk.zero (.slice none 0 0) (.slice none 0 0) (.slice none 0 0) (.pointer none) (.slice none 0 0)) 210 :: l1)) => items_s hN H
      have hE := fun w1 l1 l2 pool (H : HS w1 l1) (hp : Pick l1 (dA p s3 ns cs pool) l2) => exp1_s H hp [119, 105, 116, 104]
      rw [show ([wWith] : List Bs) = [[119, 105, 116, 104]] from rfl] at hR hD
      generalize expectP p.e s3 [[119, 105, 116, 104]] = q at hE hR
      obtain ⟨wd2, s4⟩ := q
      unfold PartPost at hE
      dsimp only at hE hR
      obtain ⟨L, hL⟩ : ∃ L, listP p.e (aggP p.e) s4 = L := ⟨_, rfl⟩
      rw [hL] at hR
      obtain ⟨ags, s5⟩ := L
      dsimp only at hR
      have h4 := fun w1 l1 pool nv nav (H : HS w1 (dA p s5 ns cs pool :: boxA zn (nc0 Tk.zero Tk.zero (.slice none 0 0) nv nav (.pointer none) (.slice none 0 0)) 210 :: l1)) => inputs_s hN (.pointer (some ⟨zv, 0, none⟩)) H
      generalize inputsP p.e s5 = q at h4 hR
      obtain ⟨inp, s6⟩ := q
      unfold InpPost at h4
      dsimp only at h4 hR
      subst hR
      clear HR
      have hi0 := fun w1 l1 l2 (H : HS w1 l1) (hp : Pick l1 (dA p s2 ns cs pool) l2) => is01_s H hp [119, 105, 116, 104]
      have hi1 := fun w1 l1 l2 (H : HS w1 l1) (hp : Pick l1 (dA p s2 ns cs pool) l2) => is11_s H hp [61]
      unfold PartPost at hi0 hi1
      obtain ⟨i0, hi⟩ : ∃ i0, isP p.e s2 0 [[119, 105, 116, 104]] = i0 := ⟨_, rfl⟩
      rw [hi] at hi0 hD
      clear hi
      obtain ⟨i1, hi⟩ : ∃ i1, isP p.e s2 1 [[61]] = i1 := ⟨_, rfl⟩
      rw [hi] at hi1 hD
      clear hi
      have HD := Lib.hid hD
      clear hD
      obtain ⟨dB, dL, hcB⟩ := HS.get (z := zv) H5; obtain ⟨d1, df1⟩ := hcB 1; clear hcB; unfold vc0 at d1
      go_upto_region 12 with fail
      have H6 := H5.storeTo (z := zv) pkQ 1 (.int .i64 1) (vc0 t1.text 1 [] [] false (.slice none 0 0) (.slice none 0 0)) rfl
      generalize World.setCell _ _ _ = w6 at H6 ⊢
      clear H5 d1 df1 dB dL
      obtain ⟨xB, xL, hcB⟩ := HS.get (z := b1) H6; obtain ⟨x0, xf0⟩ := hcB 0; clear hcB; unfold ptrC at x0
      go_cut [41] from 33 to 40 (fun v41 wx => v41 = .bool (!i0 || i1) ∧ HS wx (dA p s2 ns cs pool :: boxA zv (vc0 t1.text 1 [] [] false (.slice none 0 0) (.slice none 0 0)) 206 :: boxA zn (nc0 Tk.zero Tk.zero (.slice none 0 0) (.slice none 0 0) (.slice none 0 0) (.pointer none) (.slice none 0 0)) 210 :: boxA b1 (ptrC p.pb) 50 :: l))
      case first =>
        cases i0
        · go_wp2_with (go_at_call 130; (with_reducible refine (hi0 _ _ _ H6 pkQ).mono ?_); rintro e w7 ⟨rfl, H7⟩)
          go_meet
          exact ⟨rfl, H7.sub pkQ⟩
        · cases i1
          · go_wp2_with (first
              | (go_at_call 130; (with_reducible refine (hi0 _ _ _ H6 pkQ).mono ?_); rintro e w7 ⟨rfl, H7⟩; obtain ⟨yB, yL, hcB⟩ := HS.get (z := b1) H7; obtain ⟨y0, yf0⟩ := hcB 0; clear hcB; unfold ptrC at y0)
              | (go_at_call 130; (with_reducible refine (hi1 _ _ _ H7 pkQ).mono ?_); rintro e w8 ⟨rfl, H8⟩))
            go_meet
            exact ⟨rfl, H8.sub pkQ⟩
          · go_wp2_with (first
              | (go_at_call 130; (with_reducible refine (hi0 _ _ _ H6 pkQ).mono ?_); rintro e w7 ⟨rfl, H7⟩; obtain ⟨yB, yL, hcB⟩ := HS.get (z := b1) H7; obtain ⟨y0, yf0⟩ := hcB 0; clear hcB; unfold ptrC at y0)
              | (go_at_call 130; (with_reducible refine (hi1 _ _ _ H7 pkQ).mono ?_); rintro e w8 ⟨rfl, H8⟩))
            go_meet
            exact ⟨rfl, H8.sub pkQ⟩
      case rest =>
        obtain ⟨rfl, H7⟩ := hcut
        clear H6 hi0 hi1 xB x0 xf0 xL
        go_upto_if 41 with fail
        go_cut [41, 42] from 43 to 43 (fun _ _ wx => ∃ pool2 itv nv names qs, HS wx (dA p s3 ns cs pool2 :: boxA zv (vc0 t1.text 1 [] [] false itv (.slice none 0 0)) 206 :: boxA zn (nc0 Tk.zero Tk.zero (.slice none 0 0) nv (.slice none 0 0) (.pointer none) (.slice none 0 0)) 210 :: rowA 214 2 itv names.length (itC names) :: rowA 72 2 nv qs.length (xsC qs) :: allA (qs.map xA) :: boxA b1 (ptrC p.pb) 50 :: l) ∧ names = its.map Prod.fst ∧ qs.map Prod.fst = its.map Prod.snd ∧ (∀ q ∈ qs, XOk pool2 q) ∧ ∀ x ∈ pool, x ∈ pool2)
        case first =>
          have hD := HD.out
          cases hb : (!i0 || i1)
          · rw [if_neg (by revert hb; cases i0 <;> cases i1 <;> simp)] at hD
            obtain ⟨rfl, rfl⟩ : its = [] ∧ s3 = s2 := ⟨(congrArg Prod.fst hD).symm, (congrArg Prod.snd hD).symm⟩
            clear hD h3
            go_wp2_with fail
            go_meet
            refine ⟨pool, .slice none 0 0, .slice none 0 0, [], [], ?_, rfl, rfl, (fun x hx => by cases hx), fun _ h => h⟩
            have h := HS.mkAll (m := []) ((H7.rowNil 214 2).rowNil 72 2)
            simp only [itC, xsC, List.length_nil, List.flatMap_nil, List.map_nil]
            exact h.sub pkQ
          · rw [if_pos (by revert hb; cases i0 <;> cases i1 <;> simp)] at hD
            rw [hD] at h3
            unfold ItemsPost at h3
            dsimp only at h3
            clear hD
            obtain ⟨xB, xL, hcB⟩ := HS.get (z := b1) H7; obtain ⟨x0, xf0⟩ := hcB 0; clear hcB; unfold ptrC at x0
            go_wp2_with (go_at_call 194; (with_reducible refine (h3 _ _ H7).mono ?_); rintro e w9 ⟨rfl, pool2, itv, nv, names, qs, H9, hn, hq, hok, hpp⟩; have HN := Lib.hid hn; have HQ := Lib.hid hq; clear hn hq)
            go_meet
            exact ⟨pool2, itv, nv, names, qs, H9, HN.out, HQ.out, hok, hpp⟩
        case rest =>
          obtain ⟨pool2, itv, nv, names, qs, H8, hn, hq, hok, hpp⟩ := hcut
          have HN := Lib.hid hn
          have HQ := Lib.hid hq
          clear hn hq H7 HD h3
          obtain ⟨xB, xL, hcB⟩ := HS.get (z := b1) H8; obtain ⟨x0, xf0⟩ := hcB 0; clear hcB; unfold ptrC at x0
          go_upto_region 15 with (go_at_call 88; (with_reducible refine (hE _ _ _ _ H8 pkQ).mono ?_); rintro e w9 ⟨rfl, H9⟩)
          clear H8 hE xB x0 xf0 xL
          obtain ⟨xB, xL, hcB⟩ := HS.get (z := b1) H9; obtain ⟨x0, xf0⟩ := hcB 0; clear hcB; unfold ptrC at x0
          have I0 : AInv p ns cs pool2 zv zn t1.text itv nv (boxA b1 (ptrC p.pb) 50 :: rowA 214 2 itv names.length (itC names) :: rowA 72 2 nv qs.length (xsC qs) :: allA (qs.map xA) :: l) w9 s4 [] := ⟨pool2, .slice none 0 0, .slice none 0 0, [], [], by
            have h := HS.mkAll (m := []) ((H9.rowNil 216 3).rowNil 72 2)
            unfold aggsL
            simp only [agsC_nil, xsC_nil, List.length_nil, List.map_nil]
            exact h.sub pkQ, rfl, rfl, (fun x hx => by cases hx), fun _ h => h⟩
          have hfew := (H9.few pkQ).1
          have hLi := list_s (p := p) 196 (fun _ _ => rfl) #[] #[.pointer (some ⟨b1, 0, none⟩), .pointer (some ⟨zv, 0, none⟩), .pointer (some ⟨zn, 0, none⟩)] (aggP p.e) (AInv p ns cs pool2 zv zn t1.text itv nv (boxA b1 (ptrC p.pb) 50 :: rowA 214 2 itv names.length (itC names) :: rowA 72 2 nv qs.length (xsC qs) :: allA (qs.map xA) :: l))
            (fun w s acc ⟨pool', agv, nav, ags, qs', H, e1, e2, e3, e4⟩ => ⟨_, _, ns, cs, pool', H, .here, fun w' s' H' => ⟨pool', agv, nav, ags, qs', H', e1, e2, e3, e4⟩⟩)
            (fun sa hsa => (fwd_agg hsa).1) (acc0 := []) (fun wa sa acc hl HI => view1_c hN wa sa acc (by simp at hl; omega) HI) I0
          rw [hL, List.nil_append] at hLi
          dsimp only at hLi
          clear I0 hL
          go_wp2_with (first
            | (go_at_call 190; (with_reducible refine hLi.mono ?_); rintro e w10 ⟨rfl, pool3, agv, nav, ags2, qs2, H10, hn2, hq2, hok2, hpp2⟩; have HN2 := Lib.hid hn2; have HQ2 := Lib.hid hq2; clear hn2 hq2; unfold aggsL at H10; obtain ⟨yB, yL, hcB⟩ := HS.get (z := b1) H10; obtain ⟨y0, yf0⟩ := hcB 0; clear hcB; unfold ptrC at y0)
            | (go_at_call 195; (with_reducible refine (h4 _ _ _ _ _ ((H10.pick (A := boxA zn (nc0 Tk.zero Tk.zero (.slice none 0 0) nv nav (.pointer none) (.slice none 0 0)) 210) pkQ).pick (A := dA p s5 ns cs pool3) pkQ)).mono ?_); rintro e w11 ⟨rfl, pool4, onv, a, v, c0, c1, hc, hcp, H11, hok3, hpp3⟩; have HC := Lib.hid hc; have HP := Lib.hid hcp; clear hc hcp))
          go_meet
          have hn := HN.out
          have hn2 := HN2.out
          subst hn hn2
          exact VMid.mk' ⟨itv, agv, onv, nv, nav, qs, qs2, (inp.2.2, a, v), c0, c1⟩ (H11.sub pkQ) HQ.out HQ2.out rfl HC.out HP.out (fun x hx => (hok x hx).imp_right fun h => hpp3 _ (hpp2 _ h)) (fun x hx => (hok2 x hx).imp_right (hpp3 _)) hok3 fun x hx => hpp3 _ (hpp2 _ (hpp x hx))
    have bb1 : (wd == [103, 114, 111, 117, 112]) = false := by simpa using e1
    by_cases e2 : wd = [117, 110, 105, 111, 110]
    · subst e2
      have hR := HR.out
      rw [if_neg (show ¬ ([117, 110, 105, 111, 110] : Bs) = wSelect by decide), if_neg (show ¬ ([117, 110, 105, 111, 110] : Bs) = wGroup by decide), if_pos (show ([117, 110, 105, 111, 110] : Bs) = wUnion from rfl)] at hR
      have h3 := fun w1 l1 l2 (H : HS w1 l1) (hp : Pick l1 (dA p s2 ns cs pool) l2) => takeName_s H hp
      generalize takeP p.e s2 1 = q at h3 hR
      obtain ⟨t2, s3⟩ := q
      unfold PartPost at h3
      dsimp only at h3 hR
      have h4 := fun w1 l1 l2 (H : HS w1 l1) (hp : Pick l1 (dA p s3 ns cs pool) l2) => takeName_s H hp
      generalize takeP p.e s3 1 = q at h4 hR
      obtain ⟨t3, s4⟩ := q
      unfold PartPost at h4
      dsimp only at h4 hR
      subst hR
      clear HR
      obtain ⟨dB, dL, hcB⟩ := HS.get (z := zv) H5; obtain ⟨d1, df1⟩ := hcB 1; clear hcB; unfold vc0 at d1
      go_upto_region 19 with fail
      have H6 := H5.storeTo (z := zv) pkQ 1 (.int .i64 2) (vc0 t1.text 2 [] [] false (.slice none 0 0) (.slice none 0 0)) rfl
      generalize World.setCell _ _ _ = w6 at H6 ⊢
      clear H5 d1 df1 dB dL
      obtain ⟨xB, xL, hcB⟩ := HS.get (z := b1) H6; obtain ⟨x0, xf0⟩ := hcB 0; clear hcB; unfold ptrC at x0
      go_upto_region 20 with (go_at_call 198; (with_reducible refine (h3 _ _ _ H6 pkQ).mono ?_); rintro e w7 ⟨rfl, H7⟩; obtain ⟨kB, kL, hcB⟩ := HS.get (z := zn) H7; obtain ⟨k0, kf0⟩ := hcB 0; obtain ⟨k1, kf1⟩ := hcB 1; obtain ⟨k2, kf2⟩ := hcB 2; obtain ⟨k3, kf3⟩ := hcB 3; clear hcB; unfold nc0 at k0 k1 k2 k3)
      have H8 := (((H7.store (z := zn) pkQ 0 (.int .i64 t2.kind)).store (z := zn) pkQ 1 (.string ⟨t2.text.toArray⟩)).store (z := zn) pkQ 2 (.int .i64 t2.int)).storeTo (z := zn) pkQ 3 (.int .i64 t2.pos) (nc0 t2 Tk.zero (.slice none 0 0) (.slice none 0 0) (.slice none 0 0) (.pointer none) (.slice none 0 0)) rfl
      generalize World.setCell _ _ _ = w8 at H8 ⊢
      clear H6 H7 h3 xB x0 xf0 xL kB kL k0 k1 k2 k3 kf0 kf1 kf2 kf3
      obtain ⟨xB, xL, hcB⟩ := HS.get (z := b1) H8; obtain ⟨x0, xf0⟩ := hcB 0; clear hcB; unfold ptrC at x0
      go_wp2_with (go_at_call 198; (with_reducible refine (h4 _ _ _ H8 pkQ).mono ?_); rintro e w9 ⟨rfl, H9⟩; obtain ⟨kB, kL, hcB⟩ := HS.get (z := zn) H9; obtain ⟨k4, kf4⟩ := hcB 4; obtain ⟨k5, kf5⟩ := hcB 5; obtain ⟨k6, kf6⟩ := hcB 6; obtain ⟨k7, kf7⟩ := hcB 7; clear hcB; unfold nc0 at k4 k5 k6 k7)
      go_meet
      have H10 := (((H9.store (z := zn) pkQ 4 (.int .i64 t3.kind)).store (z := zn) pkQ 5 (.string ⟨t3.text.toArray⟩)).store (z := zn) pkQ 6 (.int .i64 t3.int)).storeTo (z := zn) pkQ 7 (.int .i64 t3.pos) (nc0 t2 t3 (.slice none 0 0) (.slice none 0 0) (.slice none 0 0) (.pointer none) (.slice none 0 0)) rfl
      have h := HS.mkAll (m := []) (HS.mkAll (m := []) ((((((H10.rowNil 214 2).rowNil 216 3).rowNil 217 8).rowNil 72 2).rowNil 72 2).mkPure trivial))
      exact VMid.mk' ⟨.slice none 0 0, .slice none 0 0, .slice none 0 0, .slice none 0 0, .slice none 0 0, [], [], (Xr.none_, 0, .slice none 0 0), .pointer none, .slice none 0 0⟩ (h.sub (by
        simp only [itC, xsC, agsC, onC, List.length_nil, List.flatMap_nil, List.map_nil]
        show Sub (_ :: _ :: _ :: _ :: _ :: _ :: _ :: _ :: _ :: _ :: _ :: pureA True :: _) _
        exact pkQ)) rfl rfl rfl rfl ⟨⟨_, rfl⟩, _, _, _, rfl⟩ (fun x hx => by cases hx) (fun x hx => by cases hx) (.inl rfl) fun _ h => h
    have bb2 : (wd == [117, 110, 105, 111, 110]) = false := by simpa using e2
    have hR := HR.out
    rw [if_neg (by simpa [wSelect] using e0), if_neg (by simpa [wGroup] using e1), if_neg (by simpa [wUnion] using e2)] at hR
    subst hR
    clear HR e0 e1 e2
    go_wp2_with fail
    go_meet
    have h := HS.mkAll (m := []) (HS.mkAll (m := []) ((((((H5.rowNil 214 2).rowNil 216 3).rowNil 217 8).rowNil 72 2).rowNil 72 2).mkPure trivial))
    exact VMid.mk' ⟨.slice none 0 0, .slice none 0 0, .slice none 0 0, .slice none 0 0, .slice none 0 0, [], [], (Xr.none_, 0, .slice none 0 0), .pointer none, .slice none 0 0⟩ (h.sub (by
      simp only [itC, xsC, agsC, onC, List.length_nil, List.flatMap_nil, List.map_nil]
      show Sub (_ :: _ :: _ :: _ :: _ :: _ :: _ :: _ :: _ :: _ :: _ :: pureA True :: _) _
      exact pkQ)) rfl rfl rfl rfl ⟨⟨_, rfl⟩, _, _, _, rfl⟩ (fun x hx => by cases hx) (fun x hx => by cases hx) (.inl rfl) fun _ h => h
  case rest =>
    obtain ⟨⟨v, n⟩, sR⟩ := R
    obtain ⟨pool2, ⟨itv, agv, onv, nv, nav, qi, qa, qw, c0, c1⟩, H, hok, hpp⟩ := hcut
    dsimp only at H hok
    unfold Vq.parts at H
    dsimp only [List.cons_append, List.nil_append] at H
    obtain ⟨⟨bp0, e0⟩, A1, n1, cc1, e1⟩ := hok.cp
    dsimp only at e0 e1
    subst e0 e1
    clear H5 HR
    obtain ⟨Ai, ci, rfl⟩ := H.slice (v := itv) pkQ
    obtain ⟨Aa, ca, rfl⟩ := H.slice (v := agv) pkQ
    obtain ⟨Ao, co, rfl⟩ := H.slice (v := onv) pkQ
    obtain ⟨An, cn, rfl⟩ := H.slice (v := nv) pkQ
    obtain ⟨Am, cm, rfl⟩ := H.slice (v := nav) pkQ
    obtain ⟨xB, xL, hcB⟩ := HS.get (z := zv) H; obtain ⟨x2, xf2⟩ := hcB 2; obtain ⟨x3, xf3⟩ := hcB 3; clear hcB; unfold vc0 at x2 x3
    obtain ⟨yB, yL, hcB⟩ := HS.get (z := zn) H; obtain ⟨y1, yf1⟩ := hcB 1; obtain ⟨y5, yf5⟩ := hcB 5; clear hcB; unfold nc0 at y1 y5
    go_upto_region 22 with fail
    have H6 := (H.store (z := zv) pkQ 2 (.string ⟨n.left.text.toArray⟩)).storeTo (z := zv) pkQ 3 (.string ⟨n.right.text.toArray⟩) (vc0 v.name v.kind n.left.text n.right.text v.distinct (.slice Ai v.items.length ci) (.slice Aa v.aggs.length ca)) rfl
    generalize World.setCell _ _ _ = w6 at H6 ⊢
    clear H xB xL yB yL x2 x3 y1 y5 xf2 xf3 yf1 yf5
    obtain ⟨Av, cv, hv, c7, f7, lp, -⟩ := H6.rcell (i := 1) pkQ (by decide)
    have c7' : w6.cell? ⟨p.pb, 7, none⟩ = some (.slice Av (ns 1) cv) := c7
    have HV := Lib.hid hv
    clear hv c7 f7
    have Hd := H6.drew.alloc (vc0 v.name v.kind n.left.text n.right.text v.distinct (.slice Ai v.items.length ci) (.slice Aa v.aggs.length ca)) 206
    have own7 : (w6.drew.alloc (.cells (vc0 v.name v.kind n.left.text n.right.text v.distinct (.slice Ai v.items.length ci) (.slice Aa v.aggs.length ca)) 206)).ownsRow (p.pb + 1) 206 9 (.slice Av (ns 1) cv) (ns 1) (cs 1) := Hd.rown pkQ (i := 1) (by decide) HV.out
    unfold vc0 at own7
    obtain ⟨xB, xL, hcB⟩ := HS.get (z := b1) H6; obtain ⟨x0, xf0⟩ := hcB 0; clear hcB; unfold ptrC at x0
    obtain ⟨yB, yL, hcB⟩ := HS.get (z := zv) H6; obtain ⟨y0, yf0⟩ := hcB 0; obtain ⟨y1, yf1⟩ := hcB 1; obtain ⟨y2, yf2⟩ := hcB 2; obtain ⟨y3, yf3⟩ := hcB 3; obtain ⟨y4, yf4⟩ := hcB 4; obtain ⟨y5, yf5⟩ := hcB 5; obtain ⟨y6, yf6⟩ := hcB 6; obtain ⟨y7, yf7⟩ := hcB 7; obtain ⟨y8, yf8⟩ := hcB 8; clear hcB; unfold vc0 at y0 y1 y2 y3 y4 y5 y6 y7 y8
    (refine wp_region_G 14 (fun w' => w'.cell? ⟨b1, 0, none⟩ = some (.pointer (some ⟨p.pb, 0, none⟩)) ∧ w'.cell? ⟨p.pb, 7, none⟩ = some (.slice Av (ns 1) cv) ∧ w'.cell? ⟨zv, 0, none⟩ = some (.string ⟨v.name.toArray⟩) ∧ w'.cell? ⟨zv, 1, none⟩ = some (.int .i64 v.kind) ∧ w'.cell? ⟨zv, 2, none⟩ = some (.string ⟨n.left.text.toArray⟩) ∧ w'.cell? ⟨zv, 3, none⟩ = some (.string ⟨n.right.text.toArray⟩) ∧ w'.cell? ⟨zv, 4, none⟩ = some (.slice none 0 0) ∧ w'.cell? ⟨zv, 5, none⟩ = some (.slice none 0 0) ∧ w'.cell? ⟨zv, 6, none⟩ = some (.slice Ai v.items.length ci) ∧ w'.cell? ⟨zv, 7, none⟩ = some (.bool v.distinct) ∧ w'.cell? ⟨zv, 8, none⟩ = some (.slice Aa v.aggs.length ca)) (by kernel_rfl) ?_ (fun hHeld => ?_); (focus (try dsimp only); go_keep))
    (refine GG.k 0 ?_; refine GG.k 1 ?_; refine GG.k 2 ?_; refine GG.k 3 ?_; refine GG.k 4 ?_; refine GG.k 5 ?_; refine GG.k 6 ?_; refine GG.k 7 ?_)
    (refine GG.o 8 (fun K hK => ?_); go_simp; refine hK.out _ _ ?_ (fun hHeld => ?_); (focus (try dsimp only); go_keep); clear hK K; (try simp only [Act.put, qqa, qqb, qqc]))
    (refine GG.o 9 (fun K hK => ?_); (refine step_app3 (v := .slice Av (ns 1) cv) (by rfl) _ _ stVw (by rfl) (by rfl) own7 (by rfl) (news := [.string ⟨v.name.toArray⟩, .int .i64 v.kind, .string ⟨n.left.text.toArray⟩, .string ⟨n.right.text.toArray⟩, .slice none 0 0, .slice none 0 0, .slice Ai v.items.length ci, .bool v.distinct, .slice Aa v.aggs.length ca]) (by rfl) (litRd (heap_alloc_new _ _)) (fun h => by cases h) (by intro u hu; simp at hu; (repeat' (rcases hu with rfl | hu)); all_goals (first | rfl | (subst hu; rfl))) (by omega) (by first | exact Nat.zero_le _ | omega | (simp; omega)) ?_; intro vA wA ownA gA atA; have HA := Hd.appOthers pkQ (i := 1) (by decide) HV.out gA; have hAf := Hd.after pkQ (i := 1) (by decide) HV.out gA; obtain ⟨a7, g7, la⟩ := hAf; have a7' : wA.cell? ⟨p.pb, 7, none⟩ = some (.slice Av (ns 1) cv) := a7; have g7' : wA.frozen? ⟨p.pb, 7, none⟩ = false := g7; clear a7 g7; obtain ⟨mB, mL, hcB⟩ := HS.get (z := b1) HA; obtain ⟨m0, mf0⟩ := hcB 0; clear hcB; unfold ptrC at m0; obtain ⟨kB, kL, hcB⟩ := HS.get (z := zv) HA; obtain ⟨k0, kf0⟩ := hcB 0; obtain ⟨k1, kf1⟩ := hcB 1; obtain ⟨k2, kf2⟩ := hcB 2; obtain ⟨k3, kf3⟩ := hcB 3; obtain ⟨k4, kf4⟩ := hcB 4; obtain ⟨k5, kf5⟩ := hcB 5; obtain ⟨k6, kf6⟩ := hcB 6; obtain ⟨k7, kf7⟩ := hcB 7; obtain ⟨k8, kf8⟩ := hcB 8; clear hcB; unfold vc0 at k0 k1 k2 k3 k4 k5 k6 k7 k8; obtain ⟨AB, cB, rfl, -, -⟩ := own_slice ownA); refine hK.out _ _ ?_ (fun hHeld => ?_); (focus (try dsimp only); go_keep); clear hK K; (try simp only [Act.put, qqa, qqb, qqc]))
    (refine GG.k 10 ?_; refine GG.k 11 ?_; refine GG.k 12 ?_; refine GG.k 13 ?_)
    (refine GG.l (fun K hK => ?_); go_simp; refine hK.out _ _ ?_; clear hK K)
    have HP : HS (wA.setCell ⟨p.pb, 7, none⟩ (.slice AB (ns 1 + 1) cB)) _ := Hd.push (new := (vc0 v.name v.kind n.left.text n.right.text v.distinct (.slice Ai v.items.length ci) (.slice Aa v.aggs.length ca)).toList) pkQ (i := 1) (by decide) HV.out ownA gA atA
    generalize wA.setCell ⟨p.pb, 7, none⟩ (.slice AB (ns 1 + 1) cB) = w7 at HP ⊢
    clear HA own7 Hd ownA gA atA mB kB kL mL k0 k1 k2 k3 k4 k5 k6 k7 k8 kf0 kf1 kf2 kf3 kf4 kf5 kf6 kf7 kf8 m0 mf0 H6 yB yL y0 y1 y2 y3 y4 y5 y6 y7 y8 yf0 yf1 yf2 yf3 yf4 yf5 yf6 yf7 yf8 xB x0 xf0 xL a7' g7' c7' lp la HV hHeld
    obtain ⟨Aw, cw, hv, c23, lp⟩ := HP.rcell2 (j := 17) pkQ (by decide) (by decide)
    have c23' : w7.cell? ⟨p.pb, 23, none⟩ = some (.slice Aw (ns 17) cw) := c23
    have HV := Lib.hid hv
    clear hv c23
    have Hd := HP.drew.alloc (nc0 n.left n.right (.slice Ao n.on.length co) (.slice An qi.length cn) (.slice Am qa.length cm) (.pointer bp0) (.slice A1 n1 cc1)) 210
    have own7 : (w7.drew.alloc (.cells (nc0 n.left n.right (.slice Ao n.on.length co) (.slice An qi.length cn) (.slice Am qa.length cm) (.pointer bp0) (.slice A1 n1 cc1)) 210)).ownsRow (p.pb + 1) 210 13 (.slice Aw (ns 17) cw) (ns 17) (cs 17) := Hd.rown2 pkQ (j := 17) (by decide) (by decide) HV.out
    unfold nc0 at own7
    obtain ⟨xB, xL, hcB⟩ := HS.get (z := b1) HP; obtain ⟨x0, xf0⟩ := hcB 0; clear hcB; unfold ptrC at x0
    obtain ⟨yB, yL, hcB⟩ := HS.get (z := zn) HP; obtain ⟨y0, yf0⟩ := hcB 0; obtain ⟨y1, yf1⟩ := hcB 1; obtain ⟨y2, yf2⟩ := hcB 2; obtain ⟨y3, yf3⟩ := hcB 3; obtain ⟨y4, yf4⟩ := hcB 4; obtain ⟨y5, yf5⟩ := hcB 5; obtain ⟨y6, yf6⟩ := hcB 6; obtain ⟨y7, yf7⟩ := hcB 7; obtain ⟨y8, yf8⟩ := hcB 8; obtain ⟨y9, yf9⟩ := hcB 9; obtain ⟨y10, yf10⟩ := hcB 10; obtain ⟨y11, yf11⟩ := hcB 11; obtain ⟨y12, yf12⟩ := hcB 12; clear hcB; unfold nc0 at y0 y1 y2 y3 y4 y5 y6 y7 y8 y9 y10 y11 y12
    go_upto_region 23 with fail
    (refine wp_region_G 12 (fun w' => w'.cell? ⟨b1, 0, none⟩ = some (.pointer (some ⟨p.pb, 0, none⟩)) ∧ w'.cell? ⟨p.pb, 23, none⟩ = some (.slice Aw (ns 17) cw) ∧ w'.cell? ⟨zn, 0, none⟩ = some (.int .i64 n.left.kind) ∧ w'.cell? ⟨zn, 1, none⟩ = some (.string ⟨n.left.text.toArray⟩) ∧ w'.cell? ⟨zn, 2, none⟩ = some (.int .i64 n.left.int) ∧ w'.cell? ⟨zn, 3, none⟩ = some (.int .i64 n.left.pos) ∧ w'.cell? ⟨zn, 4, none⟩ = some (.int .i64 n.right.kind) ∧ w'.cell? ⟨zn, 5, none⟩ = some (.string ⟨n.right.text.toArray⟩) ∧ w'.cell? ⟨zn, 6, none⟩ = some (.int .i64 n.right.int) ∧ w'.cell? ⟨zn, 7, none⟩ = some (.int .i64 n.right.pos) ∧ w'.cell? ⟨zn, 8, none⟩ = some (.slice Ao n.on.length co) ∧ w'.cell? ⟨zn, 9, none⟩ = some (.slice An qi.length cn) ∧ w'.cell? ⟨zn, 10, none⟩ = some (.slice Am qa.length cm) ∧ w'.cell? ⟨zn, 11, none⟩ = some (.pointer bp0) ∧ w'.cell? ⟨zn, 12, none⟩ = some (.slice A1 n1 cc1)) (by kernel_rfl) ?_ (fun hHeld => ?_); (focus (try dsimp only); go_keep))
    (refine GG.k 0 ?_; refine GG.k 1 ?_; refine GG.k 2 ?_; refine GG.k 3 ?_; refine GG.k 4 ?_; refine GG.k 5 ?_; refine GG.k 6 ?_)
    (refine GG.o 7 (fun K hK => ?_); go_simp; refine hK.out _ _ ?_ (fun hHeld => ?_); (focus (try dsimp only); go_keep); clear hK K; (try simp only [Act.put, qqa, qqb, qqc]))
    (refine GG.o 8 (fun K hK => ?_); (refine step_app3 (v := .slice Aw (ns 17) cw) (by rfl) _ _ stVn (by rfl) (by rfl) own7 (by rfl) (news := [.int .i64 n.left.kind, .string ⟨n.left.text.toArray⟩, .int .i64 n.left.int, .int .i64 n.left.pos, .int .i64 n.right.kind, .string ⟨n.right.text.toArray⟩, .int .i64 n.right.int, .int .i64 n.right.pos, .slice Ao n.on.length co, .slice An qi.length cn, .slice Am qa.length cm, .pointer bp0, .slice A1 n1 cc1]) (by rfl) (litRd (heap_alloc_new _ _)) (fun h => by cases h) (by intro u hu; simp at hu; (repeat' (rcases hu with rfl | hu)); all_goals (first | rfl | (subst hu; rfl))) (by omega) (by first | exact Nat.zero_le _ | omega | (simp; omega)) ?_; intro vA wA ownA gA atA; have HA := Hd.appOthers pkQ (i := 17) (by decide) HV.out gA; have hAf := Hd.after2 pkQ (j := 17) (by decide) HV.out gA; obtain ⟨a7, g7, la⟩ := hAf; have a7' : wA.cell? ⟨p.pb, 23, none⟩ = some (.slice Aw (ns 17) cw) := a7; have g7' : wA.frozen? ⟨p.pb, 23, none⟩ = false := g7; clear a7 g7; have la' : p.pb < wA.heap.size := la; clear la; obtain ⟨mB, mL, hcB⟩ := HS.get (z := b1) HA; obtain ⟨m0, mf0⟩ := hcB 0; clear hcB; unfold ptrC at m0; obtain ⟨kB, kL, hcB⟩ := HS.get (z := zn) HA; obtain ⟨k0, kf0⟩ := hcB 0; obtain ⟨k1, kf1⟩ := hcB 1; obtain ⟨k2, kf2⟩ := hcB 2; obtain ⟨k3, kf3⟩ := hcB 3; obtain ⟨k4, kf4⟩ := hcB 4; obtain ⟨k5, kf5⟩ := hcB 5; obtain ⟨k6, kf6⟩ := hcB 6; obtain ⟨k7, kf7⟩ := hcB 7; obtain ⟨k8, kf8⟩ := hcB 8; obtain ⟨k9, kf9⟩ := hcB 9; obtain ⟨k10, kf10⟩ := hcB 10; obtain ⟨k11, kf11⟩ := hcB 11; obtain ⟨k12, kf12⟩ := hcB 12; clear hcB; unfold nc0 at k0 k1 k2 k3 k4 k5 k6 k7 k8 k9 k10 k11 k12; obtain ⟨AC, cC, rfl, -, -⟩ := own_slice ownA); refine hK.out _ _ ?_ (fun hHeld => ?_); (focus (try dsimp only); go_keep); clear hK K; (try simp only [Act.put, qqa, qqb, qqc]))
    (refine GG.k 9 ?_; refine GG.k 10 ?_; refine GG.k 11 ?_)
    (refine GG.l (fun K hK => ?_); go_simp; refine hK.out _ _ ?_; clear hK K)
    have HQ : HS (wA.setCell ⟨p.pb, 23, none⟩ (.slice AC (ns 17 + 1) cC)) _ := Hd.push2 (new2 := (nc0 n.left n.right (.slice Ao n.on.length co) (.slice An qi.length cn) (.slice Am qa.length cm) (.pointer bp0) (.slice A1 n1 cc1)).toList) pkQ (j := 17) (by decide) (by decide) HV.out ownA gA atA
    go_end0
    refine ⟨rfl, pool2, ⟨.slice Ai v.items.length ci, .slice Aa v.aggs.length ca, .slice Ao n.on.length co, .slice An qi.length cn, .slice Am qa.length cm, qi, qa, qw, .pointer bp0, .slice A1 n1 cc1⟩, .slice AB (ns 1 + 1) cB, .slice AC (ns 17 + 1) cC, ?_, hok, hpp⟩
    unfold Vq.parts
    dsimp only [List.cons_append, List.nil_append]
    exact HQ.sub pkQ
end
end Go.Proofs.YtpnfbehbheddeaaGreatDoor
