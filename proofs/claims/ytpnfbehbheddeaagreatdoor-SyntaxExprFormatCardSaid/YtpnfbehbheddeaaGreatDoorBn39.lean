/- The check of a catalogue of one table that is right and refers to no store. Check of a catalogue of one table that is right and refers to no store. The start of a parser of declarations, and what it leaves, as parts of memory. At most 4096 tokens. The look-up of names behind a parser of declarations: a first view of a store that isn't declared; one table. -/
import Derived.Test.YtpnfbehbheddeaaGreatDoorBn38
import Derived.Carry
import Derived.Laws.EntriesVeiled
import Derived.Test.YtpnfbehbheddeaaGreatDoorBn19
import Derived.Test.YtpnfbehbheddeaaGreatDoorBn36
namespace Go.Proofs.YtpnfbehbheddeaaGreatDoor
set_option maxRecDepth 100000
set_option maxHeartbeats 8000000
set_option linter.unusedVariables false
set_option linter.unusedSimpArgs false
open Go.RowKit
theorem HS.maps_ex {w : World} {l : List HA} (h : HS w l) (f : Nat → Nat → Array Value) (te : TypeId) : ∃ zb w1, w.heap.size = zb ∧ ((w.alloc (.map #[] 0)).alloc (.map #[] 0)).alloc (.cells (f zb (zb + 1)) te) = w1 ∧ HS w1 (boxA (zb + 1 + 1) (f zb (zb + 1)) te :: mapI (zb + 1) 0 (fun _ => none) :: mapB zb [] :: l) := by
  refine ⟨_, _, rfl, rfl, ?_⟩
  have h2 := ((h.mapNew).mapNewI).alloc (f w.heap.size (w.heap.size + 1)) te
  simpa using h2
def cat8 (A : Fin 8 → Option Addr) (k : Fin 8 → Nat) : Fin 8 → Value := fun j => .slice (A j) (if j = 0 then 1 else 0) (k j)
def kindsC (zk : Nat) : Array Value := #[.int .i64 1, .int .i64 8, .func (.func 147) #[.pointer (some ⟨zk, 0, none⟩)] #[], .int .i64 0, .int .i64 12, .func (.func 148) #[.pointer (some ⟨zk, 0, none⟩)] #[], .int .i64 0, .int .i64 16, .func (.func 149) #[.pointer (some ⟨zk, 0, none⟩)] #[], .int .i64 0, .int .i64 16, .func (.func 150) #[.pointer (some ⟨zk, 0, none⟩)] #[], .int .i64 0, .int .i64 16, .func (.func 151) #[.pointer (some ⟨zk, 0, none⟩)] #[], .int .i64 0, .int .i64 16, .func (.func 152) #[.pointer (some ⟨zk, 0, none⟩)] #[], .int .i64 0, .int .i64 16, .func (.func 153) #[.pointer (some ⟨zk, 0, none⟩)] #[], .int .i64 0, .int .i64 16, .func (.func 154) #[.pointer (some ⟨zk, 0, none⟩)] #[]]
theorem check_ok {w : World} {l : List HA} {kk : Nat} {A0 A1 A2 A3 A4 A5 A6 A7 A : Option Addr} {k0 k1 k2 k3 k4 k5 k6 k7 : Nat} {X : List Co} {txs : List Value} (t : Tab) (hX : X.map Prod.fst = t.cols) (hn : 1 ≤ X.length) (hn8 : X.length ≤ 8)
    (hnl : t.name.length ≤ 1000000) (h1 : declC ⟨[], []⟩ t.name = 0) (h2 : t.erase = 0) (h3 : withinI t.retain 0 1048576 = true) (hc : ∀ i c v, X[i]? = some (c, v) → ColOk t X i c)
    (htx : ∀ (j : Nat) (u : Value), (#[.string ⟨t.name.toArray⟩, .slice A X.length kk, .int .i64 t.erase, .int .i64 t.retain] : Array Value).toList[j]? = some u → txs[j]? = some u)
    (H : HS w (rowA 79 4 (.slice A0 1 k0) 1 txs :: rowA 82 7 (.slice A X.length kk) X.length (coC X) :: allA (X.map coA) :: l)) :
    Calls Tryz.prog 93 #[.agg #[.slice A0 1 k0, .slice A1 0 k1, .slice A2 0 k2, .slice A3 0 k3, .slice A4 0 k4, .slice A5 0 k5, .slice A6 0 k6, .slice A7 0 k7]] w fun e w' => (∃ p, e = .returned (.tuple #[.pointer p, .int .i64 0, .int .i64 0])) ∧ HS w' (rowA 79 4 (.slice A0 1 k0) 1 txs :: rowA 82 7 (.slice A X.length kk) X.length (coC X) :: allA (X.map coA) :: l) := by
  have H1 := H.alloc #[.slice A0 1 k0, .slice A1 0 k1, .slice A2 0 k2, .slice A3 0 k3, .slice A4 0 k4, .slice A5 0 k5, .slice A6 0 k6, .slice A7 0 k7] 61
  go_enter Tryz.func93, Tryz.ntmps93
  go_upto_region 1 with fail
  obtain ⟨z0, w0, ez, ew⟩ : ∃ z0 w0, w.heap.size = z0 ∧ w.alloc (.cells #[.slice A0 1 k0, .slice A1 0 k1, .slice A2 0 k2, .slice A3 0 k3, .slice A4 0 k4, .slice A5 0 k5, .slice A6 0 k6, .slice A7 0 k7] 61) = w0 := ⟨_, _, rfl, rfl⟩
  rw [ew, ez] at H1 ⊢
  clear ez ew
  obtain ⟨dB, dL, hcB⟩ := HS.get (z := z0) H1; obtain ⟨d0, df0⟩ := hcB 0; obtain ⟨d1, df1⟩ := hcB 1; obtain ⟨d2, df2⟩ := hcB 2; obtain ⟨d3, df3⟩ := hcB 3; obtain ⟨d4, df4⟩ := hcB 4; obtain ⟨d5, df5⟩ := hcB 5; obtain ⟨d6, df6⟩ := hcB 6; obtain ⟨d7, df7⟩ := hcB 7; clear hcB
  obtain ⟨zb, w1, ez, ew, H2⟩ := H1.maps_ex (fun zb zi => #[.slice A0 1 k0, .slice A1 0 k1, .slice A2 0 k2, .slice A3 0 k3, .slice A4 0 k4, .slice A5 0 k5, .slice A6 0 k6, .slice A7 0 k7, .map (some zb), .map (some zi), .slice none 0 0]) 225
  have hm1 : ∀ w, (Instr.makeMap 221 none).run Tryz.prog w = .ok (.map (some w.heap.size)) (w.alloc (.map #[] 0)) := fun w => run_makeMap _ w
  have hm2 : ∀ w, (Instr.makeMap 222 none).run Tryz.prog w = .ok (.map (some w.heap.size)) (w.alloc (.map #[] 0)) := fun w => run_makeMap _ w
  go_upto_region 2 with fail
  (try rw [ez]); (try rw [ew])
  clear ez ew d0 d1 d2 d3 d4 d5 d6 d7 hm1 hm2 H1
  obtain ⟨dB, dL, hcB⟩ := HS.get (z := z0) H2; obtain ⟨d0, df0⟩ := hcB 0; obtain ⟨d1, df1⟩ := hcB 1; obtain ⟨d2, df2⟩ := hcB 2; obtain ⟨d3, df3⟩ := hcB 3; obtain ⟨d4, df4⟩ := hcB 4; obtain ⟨d5, df5⟩ := hcB 5; obtain ⟨d6, df6⟩ := hcB 6; obtain ⟨d7, df7⟩ := hcB 7; clear hcB
  go_upto_region 3 with fail
  obtain ⟨zr, w2, ez, ew, H3⟩ := (H2.rowNil 274 2).alloc_ex (kindsC (zb + 1 + 1)) 228
  unfold kindsC at ew
  rw [ez, ew]
  clear ez ew H2 d0 d1 d2 d3 d4 d5 d6 d7
  obtain ⟨zk, hzk⟩ : ∃ zk, zb + 1 + 1 = zk := ⟨_, rfl⟩
  rw [hzk] at H3 ⊢
  have H4 : HS w2 (boxA zr (kindsC zk) 228 :: boxA zk #[.slice A0 1 k0, .slice A1 0 k1, .slice A2 0 k2, .slice A3 0 k3, .slice A4 0 k4, .slice A5 0 k5, .slice A6 0 k6, .slice A7 0 k7, .map (some zb), .map (some (zb + 1)), .slice none 0 0] 225 :: mapB zb [] :: mapI (zb + 1) 0 (fun _ => none) :: rowA 274 2 (.slice none 0 0) 0 [] :: rowA 79 4 (.slice A0 1 k0) 1 txs :: rowA 82 7 (.slice A X.length kk) X.length (coC X) :: allA (X.map coA) :: l) := H3.sub pkQ
  clear H3 hzk
  go_upto_region 4 with fail
  go_loopw [70] (fun v70 wr => ∃ j : Nat, v70 = .int .i64 (j : Int) ∧ j ≤ 8 ∧ HS wr (boxA zr (kindsC zk) 228 :: boxA zk #[.slice A0 1 k0, .slice A1 0 k1, .slice A2 0 k2, .slice A3 0 k3, .slice A4 0 k4, .slice A5 0 k5, .slice A6 0 k6, .slice A7 0 k7, .map (some zb), .map (some (zb + 1)), .slice none 0 0] 225 :: mapB zb [] :: mapI (zb + 1) 0 (fun _ => none) :: rowA 274 2 (.slice none 0 0) 0 [] :: rowA 79 4 (.slice A0 1 k0) 1 txs :: rowA 82 7 (.slice A X.length kk) X.length (coC X) :: allA (X.map coA) :: l)) (fun v70 _ => 8 - (intOf v70).toNat)
  case atStart => exact ⟨0, rfl, by omega, H4⟩
  case round =>
    obtain ⟨j, rfl, hj, Hr⟩ := hrel
    clear H4
    obtain ⟨xB, xL, hcB⟩ := HS.get (z := zr) Hr; obtain ⟨x0, xf0⟩ := hcB 0; obtain ⟨x1, xf1⟩ := hcB 1; obtain ⟨x2, xf2⟩ := hcB 2; obtain ⟨x3, xf3⟩ := hcB 3; obtain ⟨x4, xf4⟩ := hcB 4; obtain ⟨x5, xf5⟩ := hcB 5; obtain ⟨x6, xf6⟩ := hcB 6; obtain ⟨x7, xf7⟩ := hcB 7; obtain ⟨x8, xf8⟩ := hcB 8; obtain ⟨x9, xf9⟩ := hcB 9; obtain ⟨x10, xf10⟩ := hcB 10; obtain ⟨x11, xf11⟩ := hcB 11; obtain ⟨x12, xf12⟩ := hcB 12; obtain ⟨x13, xf13⟩ := hcB 13; obtain ⟨x14, xf14⟩ := hcB 14; obtain ⟨x15, xf15⟩ := hcB 15; obtain ⟨x16, xf16⟩ := hcB 16; obtain ⟨x17, xf17⟩ := hcB 17; obtain ⟨x18, xf18⟩ := hcB 18; obtain ⟨x19, xf19⟩ := hcB 19; obtain ⟨x20, xf20⟩ := hcB 20; obtain ⟨x21, xf21⟩ := hcB 21; obtain ⟨x22, xf22⟩ := hcB 22; obtain ⟨x23, xf23⟩ := hcB 23; clear hcB; unfold kindsC at x0 x1 x2 x3 x4 x5 x6 x7 x8 x9 x10 x11 x12 x13 x14 x15 x16 x17 x18 x19 x20 x21 x22 x23
    have hcases : j = 0 ∨ j = 1 ∨ j = 2 ∨ j = 3 ∨ j = 4 ∨ j = 5 ∨ j = 6 ∨ j = 7 ∨ j = 8 := by omega
    rcases hcases with rfl | rfl | rfl | rfl | rfl | rfl | rfl | rfl | rfl
    · go_wp2_with fail
      go_roundw
      case rel => exact ⟨1, by go_num, by omega, (Hr.alloc _ _).tail⟩
      case measure => simp [intOf]
    · go_wp2_with fail
      go_roundw
      case rel => exact ⟨2, by go_num, by omega, (Hr.alloc _ _).tail⟩
      case measure => simp [intOf]
    · go_wp2_with fail
      go_roundw
      case rel => exact ⟨3, by go_num, by omega, (Hr.alloc _ _).tail⟩
      case measure => simp [intOf]
    · go_wp2_with fail
      go_roundw
      case rel => exact ⟨4, by go_num, by omega, (Hr.alloc _ _).tail⟩
      case measure => simp [intOf]
    · go_wp2_with fail
      go_roundw
      case rel => exact ⟨5, by go_num, by omega, (Hr.alloc _ _).tail⟩
      case measure => simp [intOf]
    · go_wp2_with fail
      go_roundw
      case rel => exact ⟨6, by go_num, by omega, (Hr.alloc _ _).tail⟩
      case measure => simp [intOf]
    · go_wp2_with fail
      go_roundw
      case rel => exact ⟨7, by go_num, by omega, (Hr.alloc _ _).tail⟩
      case measure => simp [intOf]
    · go_wp2_with fail
      go_roundw
      case rel => exact ⟨8, by go_num, by omega, (Hr.alloc _ _).tail⟩
      case measure => simp [intOf]
    · clear x0 x1 x2 x3 x4 x5 x6 x7 x8 x9 x10 x11 x12 x13 x14 x15 x16 x17 x18 x19 x20 x21 x22 x23
      go_upto_region 11 with fail
      go_loopw [9, 82] (fun v9 v82 wr => (v9 = .int .i64 0 ∧ v82 = .int .i64 0 ∧ HS wr (boxA zr (kindsC zk) 228 :: boxA zk #[.slice A0 1 k0, .slice A1 0 k1, .slice A2 0 k2, .slice A3 0 k3, .slice A4 0 k4, .slice A5 0 k5, .slice A6 0 k6, .slice A7 0 k7, .map (some zb), .map (some (zb + 1)), .slice none 0 0] 225 :: mapB zb [] :: mapI (zb + 1) 0 (fun _ => none) :: rowA 274 2 (.slice none 0 0) 0 [] :: rowA 79 4 (.slice A0 1 k0) 1 txs :: rowA 82 7 (.slice A X.length kk) X.length (coC X) :: allA (X.map coA) :: l)) ∨ ∃ j : Nat, v9 = .int .i64 1 ∧ v82 = .int .i64 (j : Int) ∧ 1 ≤ j ∧ j ≤ 8 ∧ HS wr (boxA zr (kindsC zk) 228 :: rowA 79 4 (.slice A0 1 k0) 1 txs :: rowA 82 7 (.slice A X.length kk) X.length (coC X) :: allA (X.map coA) :: l)) (fun _ v82 _ => 8 - (intOf v82).toNat)
      case atStart => exact .inl ⟨rfl, rfl, Hr⟩
      case round =>
        rcases hrel with ⟨rfl, rfl, Hs⟩ | ⟨j, rfl, rfl, hj1, hj2, Hs⟩
        · obtain ⟨xB, xL, hcB⟩ := HS.get (z := zr) Hs; obtain ⟨x0, xf0⟩ := hcB 0; obtain ⟨x1, xf1⟩ := hcB 1; obtain ⟨x2, xf2⟩ := hcB 2; clear hcB; unfold kindsC at x0 x1 x2
          go_upto_region 13 with fail
          obtain ⟨zd, w3, ez, ew, H5⟩ := Hs.alloc_ex #[.int .i64 1, .int .i64 8, .func (.func 147) #[.pointer (some ⟨zk, 0, none⟩)] #[]] 228
          (try rw [ez]); (try rw [ew])
          clear ez ew x0 x1 x2 Hs Hr
          obtain ⟨yB, yL, hcB⟩ := HS.get (z := zd) H5; obtain ⟨y0, yf0⟩ := hcB 0; obtain ⟨y1, yf1⟩ := hcB 1; obtain ⟨y2, yf2⟩ := hcB 2; clear hcB
          go_upto_region 14 with fail
          go_loopw [9, 88] (fun v9 v88 wr => (v9 = .int .i64 0 ∧ v88 = .int .i64 0 ∧ HS wr (boxA zd #[.int .i64 1, .int .i64 8, .func (.func 147) #[.pointer (some ⟨zk, 0, none⟩)] #[]] 228 :: boxA zr (kindsC zk) 228 :: boxA zk #[.slice A0 1 k0, .slice A1 0 k1, .slice A2 0 k2, .slice A3 0 k3, .slice A4 0 k4, .slice A5 0 k5, .slice A6 0 k6, .slice A7 0 k7, .map (some zb), .map (some (zb + 1)), .slice none 0 0] 225 :: mapB zb [] :: mapI (zb + 1) 0 (fun _ => none) :: rowA 274 2 (.slice none 0 0) 0 [] :: rowA 79 4 (.slice A0 1 k0) 1 txs :: rowA 82 7 (.slice A X.length kk) X.length (coC X) :: allA (X.map coA) :: l)) ∨ (v9 = .int .i64 1 ∧ v88 = .int .i64 1 ∧ HS wr (boxA zd #[.int .i64 1, .int .i64 8, .func (.func 147) #[.pointer (some ⟨zk, 0, none⟩)] #[]] 228 :: boxA zr (kindsC zk) 228 :: rowA 79 4 (.slice A0 1 k0) 1 txs :: rowA 82 7 (.slice A X.length kk) X.length (coC X) :: allA (X.map coA) :: l))) (fun _ v88 _ => 1 - (intOf v88).toNat)
          case atStart => exact .inl ⟨rfl, rfl, H5⟩
          case round =>
            clear H5 y0 y1 y2 yf0 yf1 yf2 yB yL
            rcases hrel with ⟨rfl, rfl, Hs⟩ | ⟨rfl, rfl, Hs⟩
            · obtain ⟨yB, yL, hcB⟩ := HS.get (z := zd) Hs; obtain ⟨y0, yf0⟩ := hcB 0; obtain ⟨y1, yf1⟩ := hcB 1; obtain ⟨y2, yf2⟩ := hcB 2; clear hcB
              have hT := table_ok (l := boxA zd #[.int .i64 1, .int .i64 8, .func (.func 147) #[.pointer (some ⟨zk, 0, none⟩)] #[]] 228 :: boxA zr (kindsC zk) 228 :: l) (zk := zk) (zb := zb) (zi := zb + 1) (n := 0) (m := 0) (nt := 1) (ct := k0) (kk := kk) (cat := cat8 (fun j => (#[A0, A1, A2, A3, A4, A5, A6, A7] : Array (Option Addr)).getD j none) (fun j => (#[k0, k1, k2, k3, k4, k5, k6, k7] : Array Nat).getD j 0)) (sv := .slice none 0 0) (q := []) (g := fun _ => none) (A := A) (At := A0) (X := X) (xs := []) (txs := txs) t hX hn hn8 (by simp) (by omega) (by omega) hnl h1 h2 h3 hc rfl rfl (by omega) (by omega) htx (Hs.sub (l' := boxA zk #[.slice A0 1 k0, .slice A1 0 k1, .slice A2 0 k2, .slice A3 0 k3, .slice A4 0 k4, .slice A5 0 k5, .slice A6 0 k6, .slice A7 0 k7, .map (some zb), .map (some (zb + 1)), .slice none 0 0] 225 :: mapB zb [] :: mapI (zb + 1) 0 (fun _ => none) :: rowA 274 2 (.slice none 0 0) 0 [] :: rowA 79 4 (.slice A0 1 k0) 1 txs :: rowA 82 7 (.slice A X.length kk) X.length (coC X) :: allA (X.map coA) :: boxA zd #[.int .i64 1, .int .i64 8, .func (.func 147) #[.pointer (some ⟨zk, 0, none⟩)] #[]] 228 :: boxA zr (kindsC zk) 228 :: l) pkQ)
              unfold TbPost at hT
              go_wp2_with (go_at_call 147; (with_reducible refine hT.mono ?_); rintro e w4 ⟨rfl, H6⟩)
              go_roundw
              case rel => exact ⟨_, _, _, _, _, _, _, _, _, _, _, _, _, _, _, _, _, _, _, _, .inr ⟨rfl, rfl, H6.sub pkQ⟩, rfl⟩
              case measure => simp [intOf]
            · obtain ⟨yB, yL, hcB⟩ := HS.get (z := zd) Hs; obtain ⟨y0, yf0⟩ := hcB 0; obtain ⟨y1, yf1⟩ := hcB 1; obtain ⟨y2, yf2⟩ := hcB 2; clear hcB
              go_wp2_with fail
              go_roundw
              case rel => exact .inr ⟨1, rfl, rfl, by omega, by omega, Hs.tail⟩
              case measure => simp [intOf]
        · clear Hr
          have hcases : j = 1 ∨ j = 2 ∨ j = 3 ∨ j = 4 ∨ j = 5 ∨ j = 6 ∨ j = 7 ∨ j = 8 := by omega
          rcases hcases with rfl | rfl | rfl | rfl | rfl | rfl | rfl | rfl
          · obtain ⟨xB, xL, hcB⟩ := HS.get (z := zr) Hs; obtain ⟨x3, xf3⟩ := hcB 3; obtain ⟨x4, xf4⟩ := hcB 4; obtain ⟨x5, xf5⟩ := hcB 5; clear hcB; unfold kindsC at x3 x4 x5
            go_upto_region 13 with fail
            obtain ⟨zd, w3, ez, ew, H5⟩ := Hs.alloc_ex #[.int .i64 0, .int .i64 12, .func (.func 148) #[.pointer (some ⟨zk, 0, none⟩)] #[]] 228
            (try rw [ez]); (try rw [ew])
            clear ez ew x3 x4 x5 Hs
            obtain ⟨yB, yL, hcB⟩ := HS.get (z := zd) H5; obtain ⟨y0, yf0⟩ := hcB 0; obtain ⟨y1, yf1⟩ := hcB 1; obtain ⟨y2, yf2⟩ := hcB 2; clear hcB
            go_upto_region 14 with fail
            go_loopw [9, 88] (fun v9 v88 wr => v9 = .int .i64 1 ∧ v88 = .int .i64 0 ∧ wr = w3) (fun _ _ _ => 0)
            case atStart => exact ⟨rfl, rfl, rfl⟩
            case round =>
              obtain ⟨rfl, rfl, rfl⟩ := hrel
              go_wp2_with fail
              go_roundw
              case rel => exact .inr ⟨2, rfl, by go_num, by omega, by omega, H5.tail⟩
              case measure => simp [intOf]
          · obtain ⟨xB, xL, hcB⟩ := HS.get (z := zr) Hs; obtain ⟨x6, xf6⟩ := hcB 6; obtain ⟨x7, xf7⟩ := hcB 7; obtain ⟨x8, xf8⟩ := hcB 8; clear hcB; unfold kindsC at x6 x7 x8
            go_upto_region 13 with fail
            obtain ⟨zd, w3, ez, ew, H5⟩ := Hs.alloc_ex #[.int .i64 0, .int .i64 16, .func (.func 149) #[.pointer (some ⟨zk, 0, none⟩)] #[]] 228
            (try rw [ez]); (try rw [ew])
            clear ez ew x6 x7 x8 Hs
            obtain ⟨yB, yL, hcB⟩ := HS.get (z := zd) H5; obtain ⟨y0, yf0⟩ := hcB 0; obtain ⟨y1, yf1⟩ := hcB 1; obtain ⟨y2, yf2⟩ := hcB 2; clear hcB
            go_upto_region 14 with fail
            go_loopw [9, 88] (fun v9 v88 wr => v9 = .int .i64 1 ∧ v88 = .int .i64 0 ∧ wr = w3) (fun _ _ _ => 0)
            case atStart => exact ⟨rfl, rfl, rfl⟩
            case round =>
              obtain ⟨rfl, rfl, rfl⟩ := hrel
              go_wp2_with fail
              go_roundw
              case rel => exact .inr ⟨3, rfl, by go_num, by omega, by omega, H5.tail⟩
              case measure => simp [intOf]
          · obtain ⟨xB, xL, hcB⟩ := HS.get (z := zr) Hs; obtain ⟨x9, xf9⟩ := hcB 9; obtain ⟨x10, xf10⟩ := hcB 10; obtain ⟨x11, xf11⟩ := hcB 11; clear hcB; unfold kindsC at x9 x10 x11
            go_upto_region 13 with fail
            obtain ⟨zd, w3, ez, ew, H5⟩ := Hs.alloc_ex #[.int .i64 0, .int .i64 16, .func (.func 150) #[.pointer (some ⟨zk, 0, none⟩)] #[]] 228
            (try rw [ez]); (try rw [ew])
            clear ez ew x9 x10 x11 Hs
            obtain ⟨yB, yL, hcB⟩ := HS.get (z := zd) H5; obtain ⟨y0, yf0⟩ := hcB 0; obtain ⟨y1, yf1⟩ := hcB 1; obtain ⟨y2, yf2⟩ := hcB 2; clear hcB
            go_upto_region 14 with fail
            go_loopw [9, 88] (fun v9 v88 wr => v9 = .int .i64 1 ∧ v88 = .int .i64 0 ∧ wr = w3) (fun _ _ _ => 0)
            case atStart => exact ⟨rfl, rfl, rfl⟩
            case round =>
              obtain ⟨rfl, rfl, rfl⟩ := hrel
              go_wp2_with fail
              go_roundw
              case rel => exact .inr ⟨4, rfl, by go_num, by omega, by omega, H5.tail⟩
              case measure => simp [intOf]
          · obtain ⟨xB, xL, hcB⟩ := HS.get (z := zr) Hs; obtain ⟨x12, xf12⟩ := hcB 12; obtain ⟨x13, xf13⟩ := hcB 13; obtain ⟨x14, xf14⟩ := hcB 14; clear hcB; unfold kindsC at x12 x13 x14
            go_upto_region 13 with fail
            obtain ⟨zd, w3, ez, ew, H5⟩ := Hs.alloc_ex #[.int .i64 0, .int .i64 16, .func (.func 151) #[.pointer (some ⟨zk, 0, none⟩)] #[]] 228
            (try rw [ez]); (try rw [ew])
            clear ez ew x12 x13 x14 Hs
            obtain ⟨yB, yL, hcB⟩ := HS.get (z := zd) H5; obtain ⟨y0, yf0⟩ := hcB 0; obtain ⟨y1, yf1⟩ := hcB 1; obtain ⟨y2, yf2⟩ := hcB 2; clear hcB
            go_upto_region 14 with fail
            go_loopw [9, 88] (fun v9 v88 wr => v9 = .int .i64 1 ∧ v88 = .int .i64 0 ∧ wr = w3) (fun _ _ _ => 0)
            case atStart => exact ⟨rfl, rfl, rfl⟩
            case round =>
              obtain ⟨rfl, rfl, rfl⟩ := hrel
              go_wp2_with fail
              go_roundw
              case rel => exact .inr ⟨5, rfl, by go_num, by omega, by omega, H5.tail⟩
              case measure => simp [intOf]
          · obtain ⟨xB, xL, hcB⟩ := HS.get (z := zr) Hs; obtain ⟨x15, xf15⟩ := hcB 15; obtain ⟨x16, xf16⟩ := hcB 16; obtain ⟨x17, xf17⟩ := hcB 17; clear hcB; unfold kindsC at x15 x16 x17
            go_upto_region 13 with fail
            obtain ⟨zd, w3, ez, ew, H5⟩ := Hs.alloc_ex #[.int .i64 0, .int .i64 16, .func (.func 152) #[.pointer (some ⟨zk, 0, none⟩)] #[]] 228
            (try rw [ez]); (try rw [ew])
            clear ez ew x15 x16 x17 Hs
            obtain ⟨yB, yL, hcB⟩ := HS.get (z := zd) H5; obtain ⟨y0, yf0⟩ := hcB 0; obtain ⟨y1, yf1⟩ := hcB 1; obtain ⟨y2, yf2⟩ := hcB 2; clear hcB
            go_upto_region 14 with fail
            go_loopw [9, 88] (fun v9 v88 wr => v9 = .int .i64 1 ∧ v88 = .int .i64 0 ∧ wr = w3) (fun _ _ _ => 0)
            case atStart => exact ⟨rfl, rfl, rfl⟩
            case round =>
              obtain ⟨rfl, rfl, rfl⟩ := hrel
              go_wp2_with fail
              go_roundw
              case rel => exact .inr ⟨6, rfl, by go_num, by omega, by omega, H5.tail⟩
              case measure => simp [intOf]
          · obtain ⟨xB, xL, hcB⟩ := HS.get (z := zr) Hs; obtain ⟨x18, xf18⟩ := hcB 18; obtain ⟨x19, xf19⟩ := hcB 19; obtain ⟨x20, xf20⟩ := hcB 20; clear hcB; unfold kindsC at x18 x19 x20
            go_upto_region 13 with fail
            obtain ⟨zd, w3, ez, ew, H5⟩ := Hs.alloc_ex #[.int .i64 0, .int .i64 16, .func (.func 153) #[.pointer (some ⟨zk, 0, none⟩)] #[]] 228
            (try rw [ez]); (try rw [ew])
            clear ez ew x18 x19 x20 Hs
            obtain ⟨yB, yL, hcB⟩ := HS.get (z := zd) H5; obtain ⟨y0, yf0⟩ := hcB 0; obtain ⟨y1, yf1⟩ := hcB 1; obtain ⟨y2, yf2⟩ := hcB 2; clear hcB
            go_upto_region 14 with fail
            go_loopw [9, 88] (fun v9 v88 wr => v9 = .int .i64 1 ∧ v88 = .int .i64 0 ∧ wr = w3) (fun _ _ _ => 0)
            case atStart => exact ⟨rfl, rfl, rfl⟩
            case round =>
              obtain ⟨rfl, rfl, rfl⟩ := hrel
              go_wp2_with fail
              go_roundw
              case rel => exact .inr ⟨7, rfl, by go_num, by omega, by omega, H5.tail⟩
              case measure => simp [intOf]
          · obtain ⟨xB, xL, hcB⟩ := HS.get (z := zr) Hs; obtain ⟨x21, xf21⟩ := hcB 21; obtain ⟨x22, xf22⟩ := hcB 22; obtain ⟨x23, xf23⟩ := hcB 23; clear hcB; unfold kindsC at x21 x22 x23
            go_upto_region 13 with fail
            obtain ⟨zd, w3, ez, ew, H5⟩ := Hs.alloc_ex #[.int .i64 0, .int .i64 16, .func (.func 154) #[.pointer (some ⟨zk, 0, none⟩)] #[]] 228
            (try rw [ez]); (try rw [ew])
            clear ez ew x21 x22 x23 Hs
            obtain ⟨yB, yL, hcB⟩ := HS.get (z := zd) H5; obtain ⟨y0, yf0⟩ := hcB 0; obtain ⟨y1, yf1⟩ := hcB 1; obtain ⟨y2, yf2⟩ := hcB 2; clear hcB
            go_upto_region 14 with fail
            go_loopw [9, 88] (fun v9 v88 wr => v9 = .int .i64 1 ∧ v88 = .int .i64 0 ∧ wr = w3) (fun _ _ _ => 0)
            case atStart => exact ⟨rfl, rfl, rfl⟩
            case round =>
              obtain ⟨rfl, rfl, rfl⟩ := hrel
              go_wp2_with fail
              go_roundw
              case rel => exact .inr ⟨8, rfl, by go_num, by omega, by omega, H5.tail⟩
              case measure => simp [intOf]
          · go_wp2_with fail
            go_ret3
            exact ⟨⟨_, rfl⟩, Hs.tail⟩
theorem idle_Check (w : World) : CallsD Tryz.prog 92 #[] .returning w fun e u' w' => e = .returned (.tuple #[]) ∧ u' = .returning ∧ w' = w := by
  refine callsD_of_wpS Tryz.func92 rfl fun c₀ cs hu => ?_
  apply wpS_region
  cases c₀
  simp_all [wpOpsS, go_sem, recoverD, Tryz.ntmps92, bodyPostS, results, Tryz.results92]
theorem Check_ok {w : World} {l : List HA} {kk : Nat} {A0 A1 A2 A3 A4 A5 A6 A7 A : Option Addr} {k0 k1 k2 k3 k4 k5 k6 k7 : Nat} {X : List Co} {txs : List Value} (t : Tab) (hX : X.map Prod.fst = t.cols) (hn : 1 ≤ X.length) (hn8 : X.length ≤ 8)
    (hnl : t.name.length ≤ 1000000) (h1 : declC ⟨[], []⟩ t.name = 0) (h2 : t.erase = 0) (h3 : withinI t.retain 0 1048576 = true) (hc : ∀ i c v, X[i]? = some (c, v) → ColOk t X i c)
    (htx : ∀ (j : Nat) (u : Value), (#[.string ⟨t.name.toArray⟩, .slice A X.length kk, .int .i64 t.erase, .int .i64 t.retain] : Array Value).toList[j]? = some u → txs[j]? = some u)
    (H : HS w (rowA 79 4 (.slice A0 1 k0) 1 txs :: rowA 82 7 (.slice A X.length kk) X.length (coC X) :: allA (X.map coA) :: l)) :
    Calls Tryz.prog 49 #[.agg #[.slice A0 1 k0, .slice A1 0 k1, .slice A2 0 k2, .slice A3 0 k3, .slice A4 0 k4, .slice A5 0 k5, .slice A6 0 k6, .slice A7 0 k7]] w fun e w' => e = .returned (.tuple #[.int .i64 0, .int .i64 0]) ∧ HS w' (rowA 79 4 (.slice A0 1 k0) 1 txs :: rowA 82 7 (.slice A X.length kk) X.length (coC X) :: allA (X.map coA) :: l) := by
  obtain ⟨z0, w0, ez, ew, H1⟩ := H.alloc_ex #[.slice A0 1 k0, .slice A1 0 k1, .slice A2 0 k2, .slice A3 0 k3, .slice A4 0 k4, .slice A5 0 k5, .slice A6 0 k6, .slice A7 0 k7] 61
  have hK := check_ok (A1 := A1) (A2 := A2) (A3 := A3) (A4 := A4) (A5 := A5) (A6 := A6) (A7 := A7) (k1 := k1) (k2 := k2) (k3 := k3) (k4 := k4) (k5 := k5) (k6 := k6) (k7 := k7) t hX hn hn8 hnl h1 h2 h3 hc htx H1.tail
  clear hX hn hn8 hnl h1 h2 h3 hc htx H
  go_enter_defers Tryz.func49, Tryz.ntmps49
  go_upto_region 1 with fail
  (try rw [ez]); (try rw [ew])
  clear ez ew
  obtain ⟨dB, dL, hcB⟩ := HS.get (z := z0) H1; obtain ⟨d0, df0⟩ := hcB 0; obtain ⟨d1, df1⟩ := hcB 1; obtain ⟨d2, df2⟩ := hcB 2; obtain ⟨d3, df3⟩ := hcB 3; obtain ⟨d4, df4⟩ := hcB 4; obtain ⟨d5, df5⟩ := hcB 5; obtain ⟨d6, df6⟩ := hcB 6; obtain ⟨d7, df7⟩ := hcB 7; clear hcB
  go_wp2_with (go_at_call 93; (with_reducible refine hK.mono ?_); rintro e w2 ⟨⟨p, rfl⟩, H2⟩)
  refine leave_idle idle_Check (by simp [go_sem]) (by simp [results, Tryz.results49, go_sem]; rfl) ?_
  exact ⟨rfl, H2⟩
section
variable {W0 w1 : World} {l : List HA} {A : Option Addr} {c : Nat} {toks : List Tk}
theorem start_D (H : HS W0 l) (hb : Below W0.heap.size W0 w1) (own : w1.ownsRow W0.heap.size 100 4 (.slice A toks.length c) toks.length (toks.flatMap Tk.cells)) (hl : toks.length ≤ 4096) (z : Int) :
    DInv ⟨w1.heap.size, A, c, ⟨toks, z⟩, nil21⟩ l (w1.alloc (.cells #[.slice A toks.length c, .int .i64 0, .int .i64 z, .bool false, .int .i64 0, .slice none 0 0, .slice none 0 0, .slice none 0 0, .slice none 0 0, .slice none 0 0, .slice none 0 0, .slice none 0 0, .slice none 0 0, .slice none 0 0, .slice none 0 0, .slice none 0 0, .slice none 0 0, .slice none 0 0, .slice none 0 0, .slice none 0 0, .slice none 0 0, .slice none 0 0, .slice none 0 0, .slice none 0 0, .slice none 0 0, .slice none 0 0, .slice none 0 0] 69)) ⟨0, false, 0, []⟩ Dc.nil := by
  have hP := ps_new own hl z
  have hz := hb.size
  have hrow : ∀ i, i < 21 → (Pp.rowV ⟨w1.heap.size, A, c, ⟨toks, z⟩, nil21⟩ i) = .slice none 0 0 := all21 ⟨rfl, rfl, rfl, rfl, rfl, rfl, rfl, rfl, rfl, rfl, rfl, rfl, rfl, rfl, rfl, rfl, rfl, rfl, rfl, rfl, rfl⟩
  have hns : ∀ i, i < 21 → Dm.nil.ns i = 0 ∧ Dm.nil.cs i = [] := all21 ⟨⟨rfl, rfl⟩, ⟨rfl, rfl⟩, ⟨rfl, rfl⟩, ⟨rfl, rfl⟩, ⟨rfl, rfl⟩, ⟨rfl, rfl⟩, ⟨rfl, rfl⟩, ⟨rfl, rfl⟩, ⟨rfl, rfl⟩, ⟨rfl, rfl⟩, ⟨rfl, rfl⟩, ⟨rfl, rfl⟩, ⟨rfl, rfl⟩, ⟨rfl, rfl⟩, ⟨rfl, rfl⟩, ⟨rfl, rfl⟩, ⟨rfl, rfl⟩, ⟨rfl, rfl⟩, ⟨rfl, rfl⟩, ⟨rfl, rfl⟩, ⟨rfl, rfl⟩⟩
  refine ⟨_, Dm.nil, [], rfl, rfl, rfl, ⟨fun x hx => (by cases hx), fun x hx => (by cases hx)⟩, fun i hi => (by rw [(hns i hi).1]; exact Nat.zero_le _), ?_⟩
  have hD : DSt ⟨w1.heap.size, A, c, ⟨toks, z⟩, nil21⟩ (w1.heap.size + 1) _ ⟨0, false, 0, []⟩ (.slice none 0 0) Dm.nil.ns Dm.nil.cs := ⟨hP, rfl, fun i hi => (by rw [hrow i hi, (hns i hi).1, (hns i hi).2]; exact World.ownsRow_nil _ _ _ _), fun i j k hi hj _ h => (by rw [hrow i hi] at h; cases h), Nat.lt_succ_self _, fun k hk => (by cases hk)⟩
  have hH := H.new (hb.alloc hz _) (B := dA ⟨w1.heap.size, A, c, ⟨toks, z⟩, nil21⟩ ⟨0, false, 0, []⟩ Dm.nil.ns Dm.nil.cs []) (S' := dS ⟨w1.heap.size, A, c, ⟨toks, z⟩, nil21⟩ (.slice none 0 0) []) ⟨_, hD, fun x hx => (by cases hx), rfl⟩ (fun k hk => by
    rcases hk with hk | ⟨_, o, hk⟩ | hk | ⟨i, hi, hk⟩ | ⟨x, hx, _⟩
    · rw [hk]; exact hz
    · dsimp only at hk
      subst hk
      exact (own.lt k rfl).1
    · cases hk
    · rw [hrow i hi] at hk; cases hk
    · cases hx)
  exact (HS.mkAll (m := []) (HS.mkAll (m := []) (HS.mkAll (m := []) hH))).sub (by
    show Sub (dA _ _ _ _ _ :: allA [] :: allA [] :: allA [] :: l) _
    exact pkQ)
theorem after_D {p : Pp} {w : World} {s : Ps} {d : Dc} (I : DInv p l w s d) : ∃ (m : Dm) (pool : Pool) (r : Nat → Value) (ds : Array Value), m.dc = d ∧ m.ok pool ∧ (∀ i, i < 21 → m.ns i ≤ s.pos) ∧ ds[3]? = some (.bool s.failed) ∧ ds[4]? = some (.int .i64 s.off) ∧ (∀ i, i < 21 → ds[6 + i]? = some (r i)) ∧
    HS w (boxA p.pb ds 69 :: poolA pool :: ((List.range 21).map (fun i => rowA (rty i) (rsz i) (r i) (m.ns i) (m.cs i)) ++ (allA m.tparts :: allA m.vparts :: allA m.bparts :: l))) := by
  obtain ⟨p', m, pool, hpb, he, hd, hok, hns, H⟩ := I
  unfold mA at H
  obtain ⟨S, ⟨rv, hD, -, -⟩, -⟩ := H.go
  obtain ⟨rv2, H2⟩ := H.explode
  refine ⟨m, pool, p'.rowV, psC p' s rv2, hd, hok, hns, ?_, ?_, fun i hi => ?_, hpb ▸ H2⟩
  · unfold psC
    rw [Array.getElem?_append_left (by simp)]
    rfl
  · unfold psC
    rw [Array.getElem?_append_left (by simp)]
    rfl
  · unfold psC Pp.rowV
    rw [Array.getElem?_append_right (by simp)]
    have hs : i < p'.res.size := by rw [hD.sz]; exact hi
    simp [hs]
end
theorem range21 (f : Nat → HA) : (List.range 21).map f = [f 0, f 1, f 2, f 3, f 4, f 5, f 6, f 7, f 8, f 9, f 10, f 11, f 12, f 13, f 14, f 15, f 16, f 17, f 18, f 19, f 20] := rfl
section
variable {w : World} {l : List HA} {m : Dm} {pool : Pool} {r : Nat → Value} {ds : Array Value} {pb : Nat}
theorem resolve_V {d : Dc} (n : Vn) (hm : m.dc = d) (h1 : d.cat.tables = []) (h2 : d.views = [n]) (hok : m.ok pool) (hr : ∀ i, i < 21 → ds[6 + i]? = some (r i))
    (H : HS w (boxA pb ds 69 :: poolA pool :: ((List.range 21).map (fun i => rowA (rty i) (rsz i) (r i) (m.ns i) (m.cs i)) ++ (allA m.tparts :: allA m.vparts :: allA m.bparts :: l)))) :
    Calls Tryz.prog 48 #[.pointer (some ⟨pb, 6, none⟩)] w fun e w' => e = .returned (.tuple #[.int .i64 n.left.pos, .int .i64 7]) ∧ HS w' l := by
  have ht : m.tabs = [] := by
    rw [← hm] at h1
    exact List.map_eq_nil_iff.1 h1
  obtain ⟨x, hv, hx⟩ : ∃ x, m.views = [x] ∧ x.2.1 = n := by
    rw [← hm] at h2
    have h3 : m.views.map (fun x => x.2.1) = [n] := h2
    cases h : m.views with
    | nil => rw [h] at h3; cases h3
    | cons a b =>
      rw [h] at h3
      injection h3 with h4 h5
      exact ⟨a, by rw [List.map_eq_nil_iff.1 h5], h4⟩
  have o := hok.v x (by rw [hv]; exact List.mem_singleton.2 rfl)
  subst hx
  rw [range21] at H
  simp only [List.cons_append, List.nil_append] at H
  have e0 : rowA (rty 0) (rsz 0) (r 0) (m.ns 0) (m.cs 0) = rowA 79 4 (r 0) 0 [] := by rw [show m.ns 0 = 0 by simp [Dm.ns, ht], show m.cs 0 = [] by simp [Dm.cs, ht]]; rfl
  have e1 : rowA (rty 1) (rsz 1) (r 1) (m.ns 1) (m.cs 1) = rowA 206 9 (r 1) 1 (viwR x) := by rw [show m.ns 1 = 1 by simp [Dm.ns, hv], show m.cs 1 = viwR x by simp [Dm.cs, hv]]; rfl
  have e17 : rowA (rty 17) (rsz 17) (r 17) (m.ns 17) (m.cs 17) = rowA 210 13 (r 17) 1 (vnR x) := by rw [show m.ns 17 = 1 by simp [Dm.ns, hv], show m.cs 17 = vnR x by simp [Dm.cs, hv]]; rfl
  have ev : m.vparts = x.2.2.parts x.1 x.2.1 := by simp [Dm.vparts, hv]
  rw [e0, e1, e17, ev] at H
  have H2 := H.sub (l' := allA (x.2.2.parts x.1 x.2.1) :: boxA pb ds 69 :: rowA 206 9 (r 1) 1 (viwR x) :: rowA 210 13 (r 17) 1 (vnR x) :: rowA 79 4 (r 0) 0 [] :: l) pkQ
  clear H e0 e1 e17 ev hok
  have H3 := H2.all_
  unfold Vq.parts at H3
  simp only [List.cons_append, List.nil_append] at H3
  obtain ⟨A0, k0, er0⟩ := H3.slice (v := r 0) pkQ
  obtain ⟨A17, k17, er17⟩ := H3.slice (v := r 17) pkQ
  obtain ⟨oA, oc, eo⟩ := H3.slice (v := x.2.2.onv) pkQ
  obtain ⟨iA, ic, ei⟩ := H3.slice (v := x.2.2.nv) pkQ
  obtain ⟨aA, ac, ea⟩ := H3.slice (v := x.2.2.nav) pkQ
  obtain ⟨⟨po, ep⟩, rA, rN, rc, ec⟩ := o.cp
  have hvn : vnR x = (nc0 x.2.1.left x.2.1.right (.slice oA x.2.1.on.length oc) (.slice iA x.2.2.qi.length ic) (.slice aA x.2.2.qa.length ac) (.pointer po) (.slice rA rN rc)).toList := by
    unfold vnR
    rw [eo, ei, ea, ep, ec]
  rw [er17] at H3
  obtain ⟨gn, eg, -, -, -⟩ := H3.rowAt (A := A17) pkQ (fun e => by rw [hvn] at e; cases e)
  subst eg
  have h6 := hr 0 (by decide)
  have h7 := hr 1 (by decide)
  have h23 := hr 17 (by decide)
  rw [er0] at h6
  rw [er17] at h23
  have hne : viwR x ≠ [] := fun e => by unfold viwR vc0 at e; cases e
  exact resolveV_s (vxs := viwR x) (nxs := vnR x) (Vv := r 1) x.2.1 hne h6 h7 h23 (by decide) (by decide) (fun j u hu => by rw [hvn]; exact hu) (H3.sub pkQ)
end
end Go.Proofs.YtpnfbehbheddeaaGreatDoor
