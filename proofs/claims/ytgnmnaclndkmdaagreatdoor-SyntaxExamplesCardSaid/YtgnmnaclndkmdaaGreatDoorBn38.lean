/- The check of a catalogue of one table that is right and refers to no store. Check of a catalogue of one table that is right and refers to no store. The start of a parser of declarations, and what it leaves, as parts of memory. At most 4096 tokens. -/
import Derived.Test.YtgnmnaclndkmdaaGreatDoorBn37
import Derived.Carry
import Derived.Laws.EntriesVeiled
import Derived.Test.YtgnmnaclndkmdaaGreatDoorBn16
import Derived.Test.YtgnmnaclndkmdaaGreatDoorBn34
namespace Go.Proofs.YtgnmnaclndkmdaaGreatDoor
open Go.RowKit

theorem HS.maps_ex {w : World} {l : List HA} (h : HS w l) (f : Nat → Nat → Array Value) (te : TypeId) : ∃ zb w1, w.heap.size = zb ∧ ((w.alloc (.map #[] 0)).alloc (.map #[] 0)).alloc (.cells (f zb (zb + 1)) te) = w1 ∧ HS w1 (boxA (zb + 1 + 1) (f zb (zb + 1)) te :: mapI (zb + 1) 0 (fun _ => none) :: mapB zb [] :: l) := by
  refine ⟨_, _, rfl, rfl, ?_⟩
  have h2 := ((h.mapNew).mapNewI).alloc (f w.heap.size (w.heap.size + 1)) te
  simpa using h2
def cat8 (A : Fin 8 → Option Addr) (k : Fin 8 → Nat) : Fin 8 → Value := fun j => .slice (A j) (if j = 0 then 1 else 0) (k j)
def kindsC (zk : Nat) : Array Value := #[.int .i64 1, .int .i64 8, .func (.func 116) #[.pointer (some ⟨zk, 0, none⟩)] #[], .int .i64 0, .int .i64 12, .func (.func 117) #[.pointer (some ⟨zk, 0, none⟩)] #[], .int .i64 0, .int .i64 16, .func (.func 118) #[.pointer (some ⟨zk, 0, none⟩)] #[], .int .i64 0, .int .i64 16, .func (.func 119) #[.pointer (some ⟨zk, 0, none⟩)] #[], .int .i64 0, .int .i64 16, .func (.func 120) #[.pointer (some ⟨zk, 0, none⟩)] #[], .int .i64 0, .int .i64 16, .func (.func 121) #[.pointer (some ⟨zk, 0, none⟩)] #[], .int .i64 0, .int .i64 16, .func (.func 122) #[.pointer (some ⟨zk, 0, none⟩)] #[], .int .i64 0, .int .i64 16, .func (.func 123) #[.pointer (some ⟨zk, 0, none⟩)] #[]]
set_option maxRecDepth 100000 in
set_option maxHeartbeats 8000000 in
theorem check_ok {w : World} {l : List HA} {kk : Nat} {A0 A1 A2 A3 A4 A5 A6 A7 A : Option Addr} {k0 k1 k2 k3 k4 k5 k6 k7 : Nat} {X : List Co} {txs : List Value} (t : Tab) (hX : X.map Prod.fst = t.cols) (hn : 1 ≤ X.length) (hn8 : X.length ≤ 8)
    (hnl : t.name.length ≤ 1000000) (h1 : declC ⟨[], []⟩ t.name = 0) (h2 : t.erase = 0) (h3 : withinI t.retain 0 1048576 = true) (hc : ∀ i c v, X[i]? = some (c, v) → ColOk t X i c)
    (htx : ∀ (j : Nat) (u : Value), (#[.string ⟨t.name.toArray⟩, .slice A X.length kk, .int .i64 t.erase, .int .i64 t.retain] : Array Value).toList[j]? = some u → txs[j]? = some u)
    (H : HS w (rowA 77 4 (.slice A0 1 k0) 1 txs :: rowA 80 7 (.slice A X.length kk) X.length (coC X) :: allA (X.map coA) :: l)) :
    Calls Tryz.prog 76 #[.agg #[.slice A0 1 k0, .slice A1 0 k1, .slice A2 0 k2, .slice A3 0 k3, .slice A4 0 k4, .slice A5 0 k5, .slice A6 0 k6, .slice A7 0 k7]] w fun e w' => (∃ p, e = .returned (.tuple #[.pointer p, .int .i64 0, .int .i64 0])) ∧ HS w' (rowA 77 4 (.slice A0 1 k0) 1 txs :: rowA 80 7 (.slice A X.length kk) X.length (coC X) :: allA (X.map coA) :: l) := by
  have H1 := H.alloc #[.slice A0 1 k0, .slice A1 0 k1, .slice A2 0 k2, .slice A3 0 k3, .slice A4 0 k4, .slice A5 0 k5, .slice A6 0 k6, .slice A7 0 k7] 49
  go_enter Tryz.func76, Tryz.ntmps76
  go_upto_region 1 with fail
  obtain ⟨z0, w0, ez, ew⟩ : ∃ z0 w0, w.heap.size = z0 ∧ w.alloc (.cells #[.slice A0 1 k0, .slice A1 0 k1, .slice A2 0 k2, .slice A3 0 k3, .slice A4 0 k4, .slice A5 0 k5, .slice A6 0 k6, .slice A7 0 k7] 49) = w0 := ⟨_, _, rfl, rfl⟩
  rw [ew, ez] at H1 ⊢
  clear ez ew
  have dB := HS.box (z := z0) H1 (by with_reducible repeat constructor); have dL := Box.lt dB; obtain ⟨hcB, hfB⟩ := Box.cells dB; have d0 := hcB 0; have df0 := hfB 0; have d1 := hcB 1; have df1 := hfB 1; have d2 := hcB 2; have df2 := hfB 2; have d3 := hcB 3; have df3 := hfB 3; have d4 := hcB 4; have df4 := hfB 4; have d5 := hcB 5; have df5 := hfB 5; have d6 := hcB 6; have df6 := hfB 6; have d7 := hcB 7; have df7 := hfB 7; clear hcB hfB
  obtain ⟨zb, w1, ez, ew, H2⟩ := H1.maps_ex (fun zb zi => #[.slice A0 1 k0, .slice A1 0 k1, .slice A2 0 k2, .slice A3 0 k3, .slice A4 0 k4, .slice A5 0 k5, .slice A6 0 k6, .slice A7 0 k7, .map (some zb), .map (some zi), .slice none 0 0]) 206
  have hm1 : ∀ w, (Instr.makeMap 202 none).run Tryz.prog w = .ok (.map (some w.heap.size)) (w.alloc (.map #[] 0)) := fun w => run_makeMap _ w
  have hm2 : ∀ w, (Instr.makeMap 203 none).run Tryz.prog w = .ok (.map (some w.heap.size)) (w.alloc (.map #[] 0)) := fun w => run_makeMap _ w
  go_upto_region 2 with fail
  (try rw [ez]); (try rw [ew])
  clear ez ew d0 d1 d2 d3 d4 d5 d6 d7 hm1 hm2 H1
  have dB := HS.box (z := z0) H2 (by with_reducible repeat constructor); have dL := Box.lt dB; obtain ⟨hcB, hfB⟩ := Box.cells dB; have d0 := hcB 0; have df0 := hfB 0; have d1 := hcB 1; have df1 := hfB 1; have d2 := hcB 2; have df2 := hfB 2; have d3 := hcB 3; have df3 := hfB 3; have d4 := hcB 4; have df4 := hfB 4; have d5 := hcB 5; have df5 := hfB 5; have d6 := hcB 6; have df6 := hfB 6; have d7 := hcB 7; have df7 := hfB 7; clear hcB hfB
  go_upto_region 3 with fail
  obtain ⟨zr, w2, ez, ew, H3⟩ := (H2.rowNil 249 2).alloc_ex (kindsC (zb + 1 + 1)) 209
  unfold kindsC at ew
  rw [ez, ew]
  clear ez ew H2 d0 d1 d2 d3 d4 d5 d6 d7
  obtain ⟨zk, hzk⟩ : ∃ zk, zb + 1 + 1 = zk := ⟨_, rfl⟩
  rw [hzk] at H3 ⊢
  have H4 : HS w2 (boxA zr (kindsC zk) 209 :: boxA zk #[.slice A0 1 k0, .slice A1 0 k1, .slice A2 0 k2, .slice A3 0 k3, .slice A4 0 k4, .slice A5 0 k5, .slice A6 0 k6, .slice A7 0 k7, .map (some zb), .map (some (zb + 1)), .slice none 0 0] 206 :: mapB zb [] :: mapI (zb + 1) 0 (fun _ => none) :: rowA 249 2 (.slice none 0 0) 0 [] :: rowA 77 4 (.slice A0 1 k0) 1 txs :: rowA 80 7 (.slice A X.length kk) X.length (coC X) :: allA (X.map coA) :: l) := H3.sub (by with_reducible repeat constructor)
  clear H3 hzk
  go_upto_region 4 with fail
  go_loopw [70] (fun v70 wr => ∃ j : Nat, v70 = .int .i64 (j : Int) ∧ j ≤ 8 ∧ HS wr (boxA zr (kindsC zk) 209 :: boxA zk #[.slice A0 1 k0, .slice A1 0 k1, .slice A2 0 k2, .slice A3 0 k3, .slice A4 0 k4, .slice A5 0 k5, .slice A6 0 k6, .slice A7 0 k7, .map (some zb), .map (some (zb + 1)), .slice none 0 0] 206 :: mapB zb [] :: mapI (zb + 1) 0 (fun _ => none) :: rowA 249 2 (.slice none 0 0) 0 [] :: rowA 77 4 (.slice A0 1 k0) 1 txs :: rowA 80 7 (.slice A X.length kk) X.length (coC X) :: allA (X.map coA) :: l)) (fun v70 _ => 8 - (intOf v70).toNat)
  case atStart => exact ⟨0, rfl, by omega, H4⟩
  case round =>
    obtain ⟨j, rfl, hj, Hr⟩ := hrel
    clear H4
    have xB := HS.box (z := zr) Hr (by with_reducible repeat constructor); have xL := Box.lt xB; obtain ⟨hcB, hfB⟩ := Box.cells xB; have x0 := hcB 0; have xf0 := hfB 0; have x1 := hcB 1; have xf1 := hfB 1; have x2 := hcB 2; have xf2 := hfB 2; have x3 := hcB 3; have xf3 := hfB 3; have x4 := hcB 4; have xf4 := hfB 4; have x5 := hcB 5; have xf5 := hfB 5; have x6 := hcB 6; have xf6 := hfB 6; have x7 := hcB 7; have xf7 := hfB 7; have x8 := hcB 8; have xf8 := hfB 8; have x9 := hcB 9; have xf9 := hfB 9; have x10 := hcB 10; have xf10 := hfB 10; have x11 := hcB 11; have xf11 := hfB 11; have x12 := hcB 12; have xf12 := hfB 12; have x13 := hcB 13; have xf13 := hfB 13; have x14 := hcB 14; have xf14 := hfB 14; have x15 := hcB 15; have xf15 := hfB 15; have x16 := hcB 16; have xf16 := hfB 16; have x17 := hcB 17; have xf17 := hfB 17; have x18 := hcB 18; have xf18 := hfB 18; have x19 := hcB 19; have xf19 := hfB 19; have x20 := hcB 20; have xf20 := hfB 20; have x21 := hcB 21; have xf21 := hfB 21; have x22 := hcB 22; have xf22 := hfB 22; have x23 := hcB 23; have xf23 := hfB 23; clear hcB hfB; unfold kindsC at x0 x1 x2 x3 x4 x5 x6 x7 x8 x9 x10 x11 x12 x13 x14 x15 x16 x17 x18 x19 x20 x21 x22 x23
    have hcases : j = 0 ∨ j = 1 ∨ j = 2 ∨ j = 3 ∨ j = 4 ∨ j = 5 ∨ j = 6 ∨ j = 7 ∨ j = 8 := by omega
    rcases hcases with rfl | rfl | rfl | rfl | rfl | rfl | rfl | rfl | rfl
    · go_wp2_with fail
      go_roundw
      case rel => exact ⟨1, by go_num, by omega, (Hr.alloc _ _).tail⟩
      case measure => simp [intOf]
    · go_wp2_with fail
      go_roundw
      case rel => exact ⟨2, by go_num, by omega, (Hr.alloc _ _).tail⟩
      case measure => simp [intOf]
    · go_wp2_with fail
      go_roundw
      case rel => exact ⟨3, by go_num, by omega, (Hr.alloc _ _).tail⟩
      case measure => simp [intOf]
    · go_wp2_with fail
      go_roundw
      case rel => exact ⟨4, by go_num, by omega, (Hr.alloc _ _).tail⟩
      case measure => simp [intOf]
    · go_wp2_with fail
      go_roundw
      case rel => exact ⟨5, by go_num, by omega, (Hr.alloc _ _).tail⟩
      case measure => simp [intOf]
    · go_wp2_with fail
      go_roundw
      case rel => exact ⟨6, by go_num, by omega, (Hr.alloc _ _).tail⟩
      case measure => simp [intOf]
    · go_wp2_with fail
      go_roundw
      case rel => exact ⟨7, by go_num, by omega, (Hr.alloc _ _).tail⟩
      case measure => simp [intOf]
    · go_wp2_with fail
      go_roundw
      case rel => exact ⟨8, by go_num, by omega, (Hr.alloc _ _).tail⟩
      case measure => simp [intOf]
    · clear x0 x1 x2 x3 x4 x5 x6 x7 x8 x9 x10 x11 x12 x13 x14 x15 x16 x17 x18 x19 x20 x21 x22 x23
      go_upto_region 11 with fail
      go_loopw [9, 82] (fun v9 v82 wr => (v9 = .int .i64 0 ∧ v82 = .int .i64 0 ∧ HS wr (boxA zr (kindsC zk) 209 :: boxA zk #[.slice A0 1 k0, .slice A1 0 k1, .slice A2 0 k2, .slice A3 0 k3, .slice A4 0 k4, .slice A5 0 k5, .slice A6 0 k6, .slice A7 0 k7, .map (some zb), .map (some (zb + 1)), .slice none 0 0] 206 :: mapB zb [] :: mapI (zb + 1) 0 (fun _ => none) :: rowA 249 2 (.slice none 0 0) 0 [] :: rowA 77 4 (.slice A0 1 k0) 1 txs :: rowA 80 7 (.slice A X.length kk) X.length (coC X) :: allA (X.map coA) :: l)) ∨ ∃ j : Nat, v9 = .int .i64 1 ∧ v82 = .int .i64 (j : Int) ∧ 1 ≤ j ∧ j ≤ 8 ∧ HS wr (boxA zr (kindsC zk) 209 :: rowA 77 4 (.slice A0 1 k0) 1 txs :: rowA 80 7 (.slice A X.length kk) X.length (coC X) :: allA (X.map coA) :: l)) (fun _ v82 _ => 8 - (intOf v82).toNat)
      case atStart => exact .inl ⟨rfl, rfl, Hr⟩
      case round =>
        rcases hrel with ⟨rfl, rfl, Hs⟩ | ⟨j, rfl, rfl, hj1, hj2, Hs⟩
        · have xB := HS.box (z := zr) Hs (by with_reducible repeat constructor); have xL := Box.lt xB; obtain ⟨hcB, hfB⟩ := Box.cells xB; have x0 := hcB 0; have xf0 := hfB 0; have x1 := hcB 1; have xf1 := hfB 1; have x2 := hcB 2; have xf2 := hfB 2; clear hcB hfB; unfold kindsC at x0 x1 x2
          go_upto_region 13 with fail
          obtain ⟨zd, w3, ez, ew, H5⟩ := Hs.alloc_ex #[.int .i64 1, .int .i64 8, .func (.func 116) #[.pointer (some ⟨zk, 0, none⟩)] #[]] 209
          (try rw [ez]); (try rw [ew])
          clear ez ew x0 x1 x2 Hs Hr
          have yB := HS.box (z := zd) H5 (by with_reducible repeat constructor); have yL := Box.lt yB; obtain ⟨hcB, hfB⟩ := Box.cells yB; have y0 := hcB 0; have yf0 := hfB 0; have y1 := hcB 1; have yf1 := hfB 1; have y2 := hcB 2; have yf2 := hfB 2; clear hcB hfB
          go_upto_region 14 with fail
          go_loopw [9, 88] (fun v9 v88 wr => (v9 = .int .i64 0 ∧ v88 = .int .i64 0 ∧ HS wr (boxA zd #[.int .i64 1, .int .i64 8, .func (.func 116) #[.pointer (some ⟨zk, 0, none⟩)] #[]] 209 :: boxA zr (kindsC zk) 209 :: boxA zk #[.slice A0 1 k0, .slice A1 0 k1, .slice A2 0 k2, .slice A3 0 k3, .slice A4 0 k4, .slice A5 0 k5, .slice A6 0 k6, .slice A7 0 k7, .map (some zb), .map (some (zb + 1)), .slice none 0 0] 206 :: mapB zb [] :: mapI (zb + 1) 0 (fun _ => none) :: rowA 249 2 (.slice none 0 0) 0 [] :: rowA 77 4 (.slice A0 1 k0) 1 txs :: rowA 80 7 (.slice A X.length kk) X.length (coC X) :: allA (X.map coA) :: l)) ∨ (v9 = .int .i64 1 ∧ v88 = .int .i64 1 ∧ HS wr (boxA zd #[.int .i64 1, .int .i64 8, .func (.func 116) #[.pointer (some ⟨zk, 0, none⟩)] #[]] 209 :: boxA zr (kindsC zk) 209 :: rowA 77 4 (.slice A0 1 k0) 1 txs :: rowA 80 7 (.slice A X.length kk) X.length (coC X) :: allA (X.map coA) :: l))) (fun _ v88 _ => 1 - (intOf v88).toNat)
          case atStart => exact .inl ⟨rfl, rfl, H5⟩
          case round =>
            clear H5 y0 y1 y2 yf0 yf1 yf2 yB yL
            rcases hrel with ⟨rfl, rfl, Hs⟩ | ⟨rfl, rfl, Hs⟩
            · have yB := HS.box (z := zd) Hs (by with_reducible repeat constructor); have yL := Box.lt yB; obtain ⟨hcB, hfB⟩ := Box.cells yB; have y0 := hcB 0; have yf0 := hfB 0; have y1 := hcB 1; have yf1 := hfB 1; have y2 := hcB 2; have yf2 := hfB 2; clear hcB hfB
              have hT := table_ok (l := boxA zd #[.int .i64 1, .int .i64 8, .func (.func 116) #[.pointer (some ⟨zk, 0, none⟩)] #[]] 209 :: boxA zr (kindsC zk) 209 :: l) (zk := zk) (zb := zb) (zi := zb + 1) (n := 0) (m := 0) (nt := 1) (ct := k0) (kk := kk) (cat := cat8 (fun j => (#[A0, A1, A2, A3, A4, A5, A6, A7] : Array (Option Addr)).getD j none) (fun j => (#[k0, k1, k2, k3, k4, k5, k6, k7] : Array Nat).getD j 0)) (sv := .slice none 0 0) (q := []) (g := fun _ => none) (A := A) (At := A0) (X := X) (xs := []) (txs := txs) t hX hn hn8 (by simp) (by omega) (by omega) hnl h1 h2 h3 hc rfl rfl (by omega) (by omega) htx (Hs.sub (l' := boxA zk #[.slice A0 1 k0, .slice A1 0 k1, .slice A2 0 k2, .slice A3 0 k3, .slice A4 0 k4, .slice A5 0 k5, .slice A6 0 k6, .slice A7 0 k7, .map (some zb), .map (some (zb + 1)), .slice none 0 0] 206 :: mapB zb [] :: mapI (zb + 1) 0 (fun _ => none) :: rowA 249 2 (.slice none 0 0) 0 [] :: rowA 77 4 (.slice A0 1 k0) 1 txs :: rowA 80 7 (.slice A X.length kk) X.length (coC X) :: allA (X.map coA) :: boxA zd #[.int .i64 1, .int .i64 8, .func (.func 116) #[.pointer (some ⟨zk, 0, none⟩)] #[]] 209 :: boxA zr (kindsC zk) 209 :: l) (by with_reducible repeat constructor))
              unfold TbPost at hT
              go_wp2_with (go_at_call 116; (with_reducible refine hT.mono ?_); rintro e w4 ⟨rfl, H6⟩)
              go_roundw
              case rel => exact ⟨_, _, _, _, _, _, _, _, _, _, _, _, _, _, _, _, _, _, _, _, .inr ⟨rfl, rfl, H6.sub (by with_reducible repeat constructor)⟩, rfl⟩
              case measure => simp [intOf]
            · have yB := HS.box (z := zd) Hs (by with_reducible repeat constructor); have yL := Box.lt yB; obtain ⟨hcB, hfB⟩ := Box.cells yB; have y0 := hcB 0; have yf0 := hfB 0; have y1 := hcB 1; have yf1 := hfB 1; have y2 := hcB 2; have yf2 := hfB 2; clear hcB hfB
              go_wp2_with fail
              go_roundw
              case rel => exact .inr ⟨1, rfl, rfl, by omega, by omega, Hs.tail⟩
              case measure => simp [intOf]
        · clear Hr
          have hcases : j = 1 ∨ j = 2 ∨ j = 3 ∨ j = 4 ∨ j = 5 ∨ j = 6 ∨ j = 7 ∨ j = 8 := by omega
          rcases hcases with rfl | rfl | rfl | rfl | rfl | rfl | rfl | rfl
          · have xB := HS.box (z := zr) Hs (by with_reducible repeat constructor); have xL := Box.lt xB; obtain ⟨hcB, hfB⟩ := Box.cells xB; have x3 := hcB 3; have xf3 := hfB 3; have x4 := hcB 4; have xf4 := hfB 4; have x5 := hcB 5; have xf5 := hfB 5; clear hcB hfB; unfold kindsC at x3 x4 x5
            go_upto_region 13 with fail
            obtain ⟨zd, w3, ez, ew, H5⟩ := Hs.alloc_ex #[.int .i64 0, .int .i64 12, .func (.func 117) #[.pointer (some ⟨zk, 0, none⟩)] #[]] 209
            (try rw [ez]); (try rw [ew])
            clear ez ew x3 x4 x5 Hs
            have yB := HS.box (z := zd) H5 (by with_reducible repeat constructor); have yL := Box.lt yB; obtain ⟨hcB, hfB⟩ := Box.cells yB; have y0 := hcB 0; have yf0 := hfB 0; have y1 := hcB 1; have yf1 := hfB 1; have y2 := hcB 2; have yf2 := hfB 2; clear hcB hfB
            go_upto_region 14 with fail
            go_loopw [9, 88] (fun v9 v88 wr => v9 = .int .i64 1 ∧ v88 = .int .i64 0 ∧ wr = w3) (fun _ _ _ => 0)
            case atStart => exact ⟨rfl, rfl, rfl⟩
            case round =>
              obtain ⟨rfl, rfl, rfl⟩ := hrel
              go_wp2_with fail
              go_roundw
              case rel => exact .inr ⟨2, rfl, by go_num, by omega, by omega, H5.tail⟩
              case measure => simp [intOf]
          · have xB := HS.box (z := zr) Hs (by with_reducible repeat constructor); have xL := Box.lt xB; obtain ⟨hcB, hfB⟩ := Box.cells xB; have x6 := hcB 6; have xf6 := hfB 6; have x7 := hcB 7; have xf7 := hfB 7; have x8 := hcB 8; have xf8 := hfB 8; clear hcB hfB; unfold kindsC at x6 x7 x8
            go_upto_region 13 with fail
            obtain ⟨zd, w3, ez, ew, H5⟩ := Hs.alloc_ex #[.int .i64 0, .int .i64 16, .func (.func 118) #[.pointer (some ⟨zk, 0, none⟩)] #[]] 209
            (try rw [ez]); (try rw [ew])
            clear ez ew x6 x7 x8 Hs
            have yB := HS.box (z := zd) H5 (by with_reducible repeat constructor); have yL := Box.lt yB; obtain ⟨hcB, hfB⟩ := Box.cells yB; have y0 := hcB 0; have yf0 := hfB 0; have y1 := hcB 1; have yf1 := hfB 1; have y2 := hcB 2; have yf2 := hfB 2; clear hcB hfB
            go_upto_region 14 with fail
            go_loopw [9, 88] (fun v9 v88 wr => v9 = .int .i64 1 ∧ v88 = .int .i64 0 ∧ wr = w3) (fun _ _ _ => 0)
            case atStart => exact ⟨rfl, rfl, rfl⟩
            case round =>
              obtain ⟨rfl, rfl, rfl⟩ := hrel
              go_wp2_with fail
              go_roundw
              case rel => exact .inr ⟨3, rfl, by go_num, by omega, by omega, H5.tail⟩
              case measure => simp [intOf]
          · have xB := HS.box (z := zr) Hs (by with_reducible repeat constructor); have xL := Box.lt xB; obtain ⟨hcB, hfB⟩ := Box.cells xB; have x9 := hcB 9; have xf9 := hfB 9; have x10 := hcB 10; have xf10 := hfB 10; have x11 := hcB 11; have xf11 := hfB 11; clear hcB hfB; unfold kindsC at x9 x10 x11
            go_upto_region 13 with fail
            obtain ⟨zd, w3, ez, ew, H5⟩ := Hs.alloc_ex #[.int .i64 0, .int .i64 16, .func (.func 119) #[.pointer (some ⟨zk, 0, none⟩)] #[]] 209
            (try rw [ez]); (try rw [ew])
            clear ez ew x9 x10 x11 Hs
            have yB := HS.box (z := zd) H5 (by with_reducible repeat constructor); have yL := Box.lt yB; obtain ⟨hcB, hfB⟩ := Box.cells yB; have y0 := hcB 0; have yf0 := hfB 0; have y1 := hcB 1; have yf1 := hfB 1; have y2 := hcB 2; have yf2 := hfB 2; clear hcB hfB
            go_upto_region 14 with fail
            go_loopw [9, 88] (fun v9 v88 wr => v9 = .int .i64 1 ∧ v88 = .int .i64 0 ∧ wr = w3) (fun _ _ _ => 0)
            case atStart => exact ⟨rfl, rfl, rfl⟩
            case round =>
              obtain ⟨rfl, rfl, rfl⟩ := hrel
              go_wp2_with fail
              go_roundw
              case rel => exact .inr ⟨4, rfl, by go_num, by omega, by omega, H5.tail⟩
              case measure => simp [intOf]
          · have xB := HS.box (z := zr) Hs (by with_reducible repeat constructor); have xL := Box.lt xB; obtain ⟨hcB, hfB⟩ := Box.cells xB; have x12 := hcB 12; have xf12 := hfB 12; have x13 := hcB 13; have xf13 := hfB 13; have x14 := hcB 14; have xf14 := hfB 14; clear hcB hfB; unfold kindsC at x12 x13 x14
            go_upto_region 13 with fail
            obtain ⟨zd, w3, ez, ew, H5⟩ := Hs.alloc_ex #[.int .i64 0, .int .i64 16, .func (.func 120) #[.pointer (some ⟨zk, 0, none⟩)] #[]] 209
            (try rw [ez]); (try rw [ew])
            clear ez ew x12 x13 x14 Hs
            have yB := HS.box (z := zd) H5 (by with_reducible repeat constructor); have yL := Box.lt yB; obtain ⟨hcB, hfB⟩ := Box.cells yB; have y0 := hcB 0; have yf0 := hfB 0; have y1 := hcB 1; have yf1 := hfB 1; have y2 := hcB 2; have yf2 := hfB 2; clear hcB hfB
            go_upto_region 14 with fail
            go_loopw [9, 88] (fun v9 v88 wr => v9 = .int .i64 1 ∧ v88 = .int .i64 0 ∧ wr = w3) (fun _ _ _ => 0)
            case atStart => exact ⟨rfl, rfl, rfl⟩
            case round =>
              obtain ⟨rfl, rfl, rfl⟩ := hrel
              go_wp2_with fail
              go_roundw
              case rel => exact .inr ⟨5, rfl, by go_num, by omega, by omega, H5.tail⟩
              case measure => simp [intOf]
          · have xB := HS.box (z := zr) Hs (by with_reducible repeat constructor); have xL := Box.lt xB; obtain ⟨hcB, hfB⟩ := Box.cells xB; have x15 := hcB 15; have xf15 := hfB 15; have x16 := hcB 16; have xf16 := hfB 16; have x17 := hcB 17; have xf17 := hfB 17; clear hcB hfB; unfold kindsC at x15 x16 x17
            go_upto_region 13 with fail
            obtain ⟨zd, w3, ez, ew, H5⟩ := Hs.alloc_ex #[.int .i64 0, .int .i64 16, .func (.func 121) #[.pointer (some ⟨zk, 0, none⟩)] #[]] 209
            (try rw [ez]); (try rw [ew])
            clear ez ew x15 x16 x17 Hs
            have yB := HS.box (z := zd) H5 (by with_reducible repeat constructor); have yL := Box.lt yB; obtain ⟨hcB, hfB⟩ := Box.cells yB; have y0 := hcB 0; have yf0 := hfB 0; have y1 := hcB 1; have yf1 := hfB 1; have y2 := hcB 2; have yf2 := hfB 2; clear hcB hfB
            go_upto_region 14 with fail
            go_loopw [9, 88] (fun v9 v88 wr => v9 = .int .i64 1 ∧ v88 = .int .i64 0 ∧ wr = w3) (fun _ _ _ => 0)
            case atStart => exact ⟨rfl, rfl, rfl⟩
            case round =>
              obtain ⟨rfl, rfl, rfl⟩ := hrel
              go_wp2_with fail
              go_roundw
              case rel => exact .inr ⟨6, rfl, by go_num, by omega, by omega, H5.tail⟩
              case measure => simp [intOf]
          · have xB := HS.box (z := zr) Hs (by with_reducible repeat constructor); have xL := Box.lt xB; obtain ⟨hcB, hfB⟩ := Box.cells xB; have x18 := hcB 18; have xf18 := hfB 18; have x19 := hcB 19; have xf19 := hfB 19; have x20 := hcB 20; have xf20 := hfB 20; clear hcB hfB; unfold kindsC at x18 x19 x20
            go_upto_region 13 with fail
            obtain ⟨zd, w3, ez, ew, H5⟩ := Hs.alloc_ex #[.int .i64 0, .int .i64 16, .func (.func 122) #[.pointer (some ⟨zk, 0, none⟩)] #[]] 209
            (try rw [ez]); (try rw [ew])
            clear ez ew x18 x19 x20 Hs
            have yB := HS.box (z := zd) H5 (by with_reducible repeat constructor); have yL := Box.lt yB; obtain ⟨hcB, hfB⟩ := Box.cells yB; have y0 := hcB 0; have yf0 := hfB 0; have y1 := hcB 1; have yf1 := hfB 1; have y2 := hcB 2; have yf2 := hfB 2; clear hcB hfB
            go_upto_region 14 with fail
            go_loopw [9, 88] (fun v9 v88 wr => v9 = .int .i64 1 ∧ v88 = .int .i64 0 ∧ wr = w3) (fun _ _ _ => 0)
            case atStart => exact ⟨rfl, rfl, rfl⟩
            case round =>
              obtain ⟨rfl, rfl, rfl⟩ := hrel
              go_wp2_with fail
              go_roundw
              case rel => exact .inr ⟨7, rfl, by go_num, by omega, by omega, H5.tail⟩
              case measure => simp [intOf]
          · have xB := HS.box (z := zr) Hs (by with_reducible repeat constructor); have xL := Box.lt xB; obtain ⟨hcB, hfB⟩ := Box.cells xB; have x21 := hcB 21; have xf21 := hfB 21; have x22 := hcB 22; have xf22 := hfB 22; have x23 := hcB 23; have xf23 := hfB 23; clear hcB hfB; unfold kindsC at x21 x22 x23
            go_upto_region 13 with fail
            obtain ⟨zd, w3, ez, ew, H5⟩ := Hs.alloc_ex #[.int .i64 0, .int .i64 16, .func (.func 123) #[.pointer (some ⟨zk, 0, none⟩)] #[]] 209
            (try rw [ez]); (try rw [ew])
            clear ez ew x21 x22 x23 Hs
            have yB := HS.box (z := zd) H5 (by with_reducible repeat constructor); have yL := Box.lt yB; obtain ⟨hcB, hfB⟩ := Box.cells yB; have y0 := hcB 0; have yf0 := hfB 0; have y1 := hcB 1; have yf1 := hfB 1; have y2 := hcB 2; have yf2 := hfB 2; clear hcB hfB
            go_upto_region 14 with fail
            go_loopw [9, 88] (fun v9 v88 wr => v9 = .int .i64 1 ∧ v88 = .int .i64 0 ∧ wr = w3) (fun _ _ _ => 0)
            case atStart => exact ⟨rfl, rfl, rfl⟩
            case round =>
              obtain ⟨rfl, rfl, rfl⟩ := hrel
              go_wp2_with fail
              go_roundw
              case rel => exact .inr ⟨8, rfl, by go_num, by omega, by omega, H5.tail⟩
              case measure => simp [intOf]
          · go_wp2_with fail
            go_ret3
            exact ⟨⟨_, rfl⟩, Hs.tail⟩
end Go.Proofs.YtgnmnaclndkmdaaGreatDoor
namespace Go.Proofs.YtgnmnaclndkmdaaGreatDoor
open Go.RowKit

theorem idle_Check (w : World) : CallsD Tryz.prog 75 #[] .returning w fun e u' w' => e = .returned (.tuple #[]) ∧ u' = .returning ∧ w' = w := by
  refine callsD_of_wpS Tryz.func75 rfl fun c₀ cs hu => ?_
  apply wpS_region
  cases c₀
  simp_all [wpOpsS, go_sem, recoverD, Tryz.ntmps75, bodyPostS, results, Tryz.results75]
set_option maxRecDepth 100000 in
set_option maxHeartbeats 8000000 in
theorem Check_ok {w : World} {l : List HA} {kk : Nat} {A0 A1 A2 A3 A4 A5 A6 A7 A : Option Addr} {k0 k1 k2 k3 k4 k5 k6 k7 : Nat} {X : List Co} {txs : List Value} (t : Tab) (hX : X.map Prod.fst = t.cols) (hn : 1 ≤ X.length) (hn8 : X.length ≤ 8)
    (hnl : t.name.length ≤ 1000000) (h1 : declC ⟨[], []⟩ t.name = 0) (h2 : t.erase = 0) (h3 : withinI t.retain 0 1048576 = true) (hc : ∀ i c v, X[i]? = some (c, v) → ColOk t X i c)
    (htx : ∀ (j : Nat) (u : Value), (#[.string ⟨t.name.toArray⟩, .slice A X.length kk, .int .i64 t.erase, .int .i64 t.retain] : Array Value).toList[j]? = some u → txs[j]? = some u)
    (H : HS w (rowA 77 4 (.slice A0 1 k0) 1 txs :: rowA 80 7 (.slice A X.length kk) X.length (coC X) :: allA (X.map coA) :: l)) :
    Calls Tryz.prog 44 #[.agg #[.slice A0 1 k0, .slice A1 0 k1, .slice A2 0 k2, .slice A3 0 k3, .slice A4 0 k4, .slice A5 0 k5, .slice A6 0 k6, .slice A7 0 k7]] w fun e w' => e = .returned (.tuple #[.int .i64 0, .int .i64 0]) ∧ HS w' (rowA 77 4 (.slice A0 1 k0) 1 txs :: rowA 80 7 (.slice A X.length kk) X.length (coC X) :: allA (X.map coA) :: l) := by
  obtain ⟨z0, w0, ez, ew, H1⟩ := H.alloc_ex #[.slice A0 1 k0, .slice A1 0 k1, .slice A2 0 k2, .slice A3 0 k3, .slice A4 0 k4, .slice A5 0 k5, .slice A6 0 k6, .slice A7 0 k7] 49
  have hK := check_ok (A1 := A1) (A2 := A2) (A3 := A3) (A4 := A4) (A5 := A5) (A6 := A6) (A7 := A7) (k1 := k1) (k2 := k2) (k3 := k3) (k4 := k4) (k5 := k5) (k6 := k6) (k7 := k7) t hX hn hn8 hnl h1 h2 h3 hc htx H1.tail
  clear hX hn hn8 hnl h1 h2 h3 hc htx H
  go_enter_defers Tryz.func44, Tryz.ntmps44
  go_upto_region 1 with fail
  (try rw [ez]); (try rw [ew])
  clear ez ew
  have dB := HS.box (z := z0) H1 (by with_reducible repeat constructor); have dL := Box.lt dB; obtain ⟨hcB, hfB⟩ := Box.cells dB; have d0 := hcB 0; have df0 := hfB 0; have d1 := hcB 1; have df1 := hfB 1; have d2 := hcB 2; have df2 := hfB 2; have d3 := hcB 3; have df3 := hfB 3; have d4 := hcB 4; have df4 := hfB 4; have d5 := hcB 5; have df5 := hfB 5; have d6 := hcB 6; have df6 := hfB 6; have d7 := hcB 7; have df7 := hfB 7; clear hcB hfB
  go_wp2_with (go_at_call 76; (with_reducible refine hK.mono ?_); rintro e w2 ⟨⟨p, rfl⟩, H2⟩)
  refine leave_idle idle_Check (by simp [go_sem]) (by simp [results, Tryz.results44, go_sem]; rfl) ?_
  exact ⟨rfl, H2⟩
end Go.Proofs.YtgnmnaclndkmdaaGreatDoor
namespace Go.Proofs.YtgnmnaclndkmdaaGreatDoor
open Go.RowKit

section
variable {W0 w1 : World} {l : List HA} {A : Option Addr} {c : Nat} {toks : List Tk}
theorem start_D (H : HS W0 l) (hb : Below W0.heap.size W0 w1) (own : w1.ownsRow W0.heap.size 83 4 (.slice A toks.length c) toks.length (toks.flatMap Tk.cells)) (hl : toks.length ≤ 4096) (z : Int) :
    DInv ⟨w1.heap.size, A, c, ⟨toks, z⟩, nil21⟩ l (w1.alloc (.cells #[.slice A toks.length c, .int .i64 0, .int .i64 z, .bool false, .int .i64 0, .slice none 0 0, .slice none 0 0, .slice none 0 0, .slice none 0 0, .slice none 0 0, .slice none 0 0, .slice none 0 0, .slice none 0 0, .slice none 0 0, .slice none 0 0, .slice none 0 0, .slice none 0 0, .slice none 0 0, .slice none 0 0, .slice none 0 0, .slice none 0 0, .slice none 0 0, .slice none 0 0, .slice none 0 0, .slice none 0 0, .slice none 0 0, .slice none 0 0] 58)) ⟨0, false, 0, []⟩ Dc.nil := by
  have hP := ps_new own hl z
  have hz := hb.size
  have hrow : ∀ i, i < 21 → (Pp.rowV ⟨w1.heap.size, A, c, ⟨toks, z⟩, nil21⟩ i) = .slice none 0 0 := all21 ⟨rfl, rfl, rfl, rfl, rfl, rfl, rfl, rfl, rfl, rfl, rfl, rfl, rfl, rfl, rfl, rfl, rfl, rfl, rfl, rfl, rfl⟩
  have hns : ∀ i, i < 21 → Dm.nil.ns i = 0 ∧ Dm.nil.cs i = [] := all21 ⟨⟨rfl, rfl⟩, ⟨rfl, rfl⟩, ⟨rfl, rfl⟩, ⟨rfl, rfl⟩, ⟨rfl, rfl⟩, ⟨rfl, rfl⟩, ⟨rfl, rfl⟩, ⟨rfl, rfl⟩, ⟨rfl, rfl⟩, ⟨rfl, rfl⟩, ⟨rfl, rfl⟩, ⟨rfl, rfl⟩, ⟨rfl, rfl⟩, ⟨rfl, rfl⟩, ⟨rfl, rfl⟩, ⟨rfl, rfl⟩, ⟨rfl, rfl⟩, ⟨rfl, rfl⟩, ⟨rfl, rfl⟩, ⟨rfl, rfl⟩, ⟨rfl, rfl⟩⟩
  refine ⟨_, Dm.nil, [], rfl, rfl, rfl, ⟨fun x hx => (by cases hx), fun x hx => (by cases hx)⟩, fun i hi => (by rw [(hns i hi).1]; exact Nat.zero_le _), ?_⟩
  have hD : DSt ⟨w1.heap.size, A, c, ⟨toks, z⟩, nil21⟩ (w1.heap.size + 1) _ ⟨0, false, 0, []⟩ (.slice none 0 0) Dm.nil.ns Dm.nil.cs := ⟨hP, rfl, fun i hi => (by rw [hrow i hi, (hns i hi).1, (hns i hi).2]; exact World.ownsRow_nil _ _ _ _), fun i j k hi hj _ h => (by rw [hrow i hi] at h; cases h), Nat.lt_succ_self _, fun k hk => (by cases hk)⟩
  have hH := H.new (hb.alloc hz _) (B := dA ⟨w1.heap.size, A, c, ⟨toks, z⟩, nil21⟩ ⟨0, false, 0, []⟩ Dm.nil.ns Dm.nil.cs []) (S' := dS ⟨w1.heap.size, A, c, ⟨toks, z⟩, nil21⟩ (.slice none 0 0) []) ⟨_, hD, fun x hx => (by cases hx), rfl⟩ (fun k hk => by
    rcases hk with hk | ⟨_, o, hk⟩ | hk | ⟨i, hi, hk⟩ | ⟨x, hx, _⟩
    · rw [hk]; exact hz
    · dsimp only at hk
      subst hk
      exact (own.lt k rfl).1
    · cases hk
    · rw [hrow i hi] at hk; cases hk
    · cases hx)
  exact (HS.mkAll (m := []) (HS.mkAll (m := []) (HS.mkAll (m := []) hH))).sub (by
    show Sub (dA _ _ _ _ _ :: allA [] :: allA [] :: allA [] :: l) _
    exact (by with_reducible repeat constructor))
theorem after_D {p : Pp} {w : World} {s : Ps} {d : Dc} (I : DInv p l w s d) : ∃ (m : Dm) (pool : Pool) (r : Nat → Value) (ds : Array Value), m.dc = d ∧ m.ok pool ∧ (∀ i, i < 21 → m.ns i ≤ s.pos) ∧ ds[3]? = some (.bool s.failed) ∧ ds[4]? = some (.int .i64 s.off) ∧ (∀ i, i < 21 → ds[6 + i]? = some (r i)) ∧
    HS w (boxA p.pb ds 58 :: poolA pool :: ((List.range 21).map (fun i => rowA (rty i) (rsz i) (r i) (m.ns i) (m.cs i)) ++ (allA m.tparts :: allA m.vparts :: allA m.bparts :: l))) := by
  obtain ⟨p', m, pool, hpb, he, hd, hok, hns, H⟩ := I
  unfold mA at H
  obtain ⟨S, ⟨rv, hD, -, -⟩, -⟩ := H.go
  obtain ⟨rv2, H2⟩ := H.explode
  refine ⟨m, pool, p'.rowV, psC p' s rv2, hd, hok, hns, ?_, ?_, fun i hi => ?_, hpb ▸ H2⟩
  · unfold psC
    rw [Array.getElem?_append_left (by simp)]
    rfl
  · unfold psC
    rw [Array.getElem?_append_left (by simp)]
    rfl
  · unfold psC Pp.rowV
    rw [Array.getElem?_append_right (by simp)]
    have hs : i < p'.res.size := by rw [hD.sz]; exact hi
    simp [hs]
end
end Go.Proofs.YtgnmnaclndkmdaaGreatDoor
