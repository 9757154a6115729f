/- constant of the writer of expressions. At most 1000000 tokens. reference of the writer of expressions. At most 1000000 tokens and names. operand of the writer of expressions, where write does what it shall. At most 1000000 tokens. -/
import Derived.Test.YtgnmnaclndkmdaaGreatDoorBn40
import Derived.Test.YtgnmnaclndkmdaaGreatDoorBn06
namespace Go.Proofs.YtgnmnaclndkmdaaGreatDoor
open Go.RowKit

def WdPost (wb : Nat) (L : List Tk) (l : List HA) (e : Ending) (w' : World) : Prop := e = .returned (.tuple #[]) ∧ HS w' (wA wb L :: l)
section
variable {w : World} {l : List HA} {wb : Nat} {L : List Tk}
theorem write1_s (a : Bs) (ha : a.length ≤ 1000000) (hL : L.length ≤ 1000000) (H : HS w (wA wb L :: l)) : Calls Tryz.prog 60 #[.pointer (some ⟨wb, 0, none⟩), .slice (some ⟨w.heap.size, 0, none⟩) 1 1] (w.alloc (.cells #[.string ⟨a.toArray⟩] 9)) (WdPost wb (L ++ [wdK a]) l) :=
  write_s [a] (by simpa using ha) (by simp) hL (H.alloc _ _)
theorem write2_s (a b : Bs) (ha : a.length ≤ 1000000) (hb : b.length ≤ 1000000) (hL : L.length ≤ 1000000) (H : HS w (wA wb L :: l)) : Calls Tryz.prog 60 #[.pointer (some ⟨wb, 0, none⟩), .slice (some ⟨w.heap.size, 0, none⟩) 2 2] (w.alloc (.cells #[.string ⟨a.toArray⟩, .string ⟨b.toArray⟩] 9)) (WdPost wb (L ++ [wdK a, wdK b]) l) :=
  write_s [a, b] (by simpa using ⟨ha, hb⟩) (by simp) hL (H.alloc _ _)
theorem write3_s (a b c : Bs) (ha : a.length ≤ 1000000) (hb : b.length ≤ 1000000) (hc : c.length ≤ 1000000) (hL : L.length ≤ 1000000) (H : HS w (wA wb L :: l)) : Calls Tryz.prog 60 #[.pointer (some ⟨wb, 0, none⟩), .slice (some ⟨w.heap.size, 0, none⟩) 3 3] (w.alloc (.cells #[.string ⟨a.toArray⟩, .string ⟨b.toArray⟩, .string ⟨c.toArray⟩] 9)) (WdPost wb (L ++ [wdK a, wdK b, wdK c]) l) :=
  write_s [a, b, c] (by simpa using ⟨ha, hb, hc⟩) (by simp) hL (H.alloc _ _)
end
def ewC (wb : Nat) (t1 t2 t3 : Value) : Array Value := #[.pointer (some ⟨wb, 0, none⟩), t1, t2, t3]
def WrPost (eb wb : Nat) (t1 t2 t3 : Value) (L : List Tk) (l : List HA) (v : Value) (e : Ending) (w' : World) : Prop := e = .returned v ∧ HS w' (boxA eb (ewC wb t1 t2 t3) 99 :: wA wb L :: l)
set_option maxRecDepth 100000 in
set_option maxHeartbeats 4000000 in
theorem constant_s {w : World} {l : List HA} {eb wb : Nat} {t1 t2 t3 : Value} {L : List Tk} (v : V) (hv : v.ok = true) (h0 : v.k ≠ 0) (hL : L.length ≤ 1000000) (H : HS w (boxA eb (ewC wb t1 t2 t3) 99 :: wA wb L :: l)) :
    Calls Tryz.prog 58 #[.pointer (some ⟨eb, 0, none⟩), .agg #[.int .i64 v.k, .int .i64 v.n, .string v.s]] w (WrPost eb wb t1 t2 t3 (L ++ constW v) l (.tuple #[])) := by
  obtain ⟨k, n, ⟨s⟩⟩ := v
  dsimp only at h0 ⊢
  obtain ⟨z, w1, ez, ew, H1⟩ := H.alloc_ex #[.int .i64 k, .int .i64 n, .string ⟨s⟩] 28
  clear H
  have hn : k ≠ 2 → -4294967296 ≤ n ∧ n ≤ 4294967296 := fun h2 => by
    unfold V.ok at hv
    simp only [Bool.or_eq_true, Bool.and_eq_true, beq_iff_eq, decide_eq_true_eq] at hv
    rcases hv with (⟨⟨h, -⟩, -⟩ | ⟨⟨⟨-, h⟩, h'⟩, -⟩) | ⟨⟨h, -⟩, -⟩
    · exact absurd h h0
    · omega
    · exact absurd h h2
  have dB := HS.box (z := eb) H1 (by with_reducible repeat constructor); have dL := Box.lt dB; obtain ⟨hcB, hfB⟩ := Box.cells dB; have d0 := hcB 0; have df0 := hfB 0; clear hcB hfB; unfold ewC at d0
  have xB := HS.box (z := z) H1 (by with_reducible repeat constructor); have xL := Box.lt xB; obtain ⟨hcB, hfB⟩ := Box.cells xB; have x0 := hcB 0; have xf0 := hfB 0; have x1 := hcB 1; have xf1 := hfB 1; have x2 := hcB 2; have xf2 := hfB 2; clear hcB hfB
  unfold WrPost
  by_cases hk : k = 2
  · subst hk
    rw [show constW ⟨2, n, ⟨s⟩⟩ = [⟨3, s.toList, 0, 0⟩] from rfl]
    clear hv h0 hn
    obtain ⟨A, c, H2⟩ := H1.wOpen (wb := wb) (L := L) (by with_reducible repeat constructor)
    have yB := HS.box (z := wb) H2 (by with_reducible repeat constructor); have yL := Box.lt yB; obtain ⟨hcB, hfB⟩ := Box.cells yB; have y0 := hcB 0; have yf0 := hfB 0; clear hcB hfB
    clear H1
    go_enter Tryz.func58, Tryz.ntmps58
    go_upto_region 3 with fail
    (try rw [ez]); (try rw [ew])
    clear ez ew
    (refine wp_region_G 18 (fun w' => w'.cell? ⟨eb, 0, none⟩ = some (.pointer (some ⟨wb, 0, none⟩)) ∧ w'.cell? ⟨wb, 0, none⟩ = some (.slice A L.length c) ∧ w'.cell? ⟨z, 2, none⟩ = some (.string ⟨s⟩)) (by kernel_rfl) ?_ (fun hHeld => ?_); (focus (try dsimp only); go_keep))
    (refine GG.tk 0 (v := ?_) rfl (by kernel_rfl) (fun _ _ _ h => h) (by rfl) (by assumption) ?_ ?_; rotate_left; (focus (intro w h; (try dsimp only at h); go_simp; (try with_reducible rfl))); (try simp only [Act.put, qqa]); refine GG.tk 1 (v := ?_) rfl (by kernel_rfl) (fun _ _ _ h => h) (by rfl) (by assumption) ?_ ?_; rotate_left; (focus (intro w h; (try dsimp only at h); go_simp; (try with_reducible rfl))); (try simp only [Act.put]); refine GG.tk 2 (v := ?_) rfl (by kernel_rfl) (fun _ _ _ h => h) (by rfl) (by assumption) ?_ ?_; rotate_left; (focus (intro w h; (try dsimp only at h); go_simp; (try with_reducible rfl))); (try simp only [Act.put]); refine GG.tk 3 (v := ?_) rfl (by kernel_rfl) (fun _ _ _ h => h) (by rfl) (by assumption) ?_ ?_; rotate_left; (focus (intro w h; (try dsimp only at h); go_simp; (try with_reducible rfl))); (try simp only [Act.put]); refine GG.tk 4 (v := ?_) rfl (by kernel_rfl) (fun _ _ _ h => h) (by rfl) (by assumption) ?_ ?_; rotate_left; (focus (intro w h; (try dsimp only at h); go_simp; (try with_reducible rfl))); (try simp only [Act.put]); refine GG.tk 5 (v := ?_) rfl (by kernel_rfl) (fun _ _ _ h => h) (by rfl) (by assumption) ?_ ?_; rotate_left; (focus (intro w h; (try dsimp only at h); go_simp; (try with_reducible rfl))); (try simp only [Act.put]); refine GG.tk 6 (v := ?_) rfl (by kernel_rfl) (fun _ _ _ h => h) (by rfl) (by assumption) ?_ ?_; rotate_left; (focus (intro w h; (try dsimp only at h); go_simp; (try with_reducible rfl))); (try simp only [Act.put]); refine GG.tk 7 (v := ?_) rfl (by kernel_rfl) (fun _ _ _ h => h) (by rfl) (by assumption) ?_ ?_; rotate_left; (focus (intro w h; (try dsimp only at h); go_simp; (try with_reducible rfl))); (try simp only [Act.put]); refine GG.tk 8 (v := ?_) rfl (by kernel_rfl) (fun _ _ _ h => h) (by rfl) (by assumption) ?_ ?_; rotate_left; (focus (intro w h; (try dsimp only at h); go_simp; (try with_reducible rfl))); (try simp only [Act.put]); refine GG.tk 9 (v := ?_) rfl (by kernel_rfl) (fun _ _ _ h => h) (by rfl) (by assumption) ?_ ?_; rotate_left; (focus (intro w h; (try dsimp only at h); go_simp; (try with_reducible rfl))); (try simp only [Act.put]); refine GG.tk 10 (v := ?_) rfl (by kernel_rfl) (fun _ _ _ h => h) (by rfl) (by assumption) ?_ ?_; rotate_left; (focus (intro w h; (try dsimp only at h); go_simp; (try with_reducible rfl))); (try simp only [Act.put]); refine GG.tk 11 (v := ?_) rfl (by kernel_rfl) (fun _ _ _ h => h) (by rfl) (by assumption) ?_ ?_; rotate_left; (focus (intro w h; (try dsimp only at h); go_simp; (try with_reducible rfl))); (try simp only [Act.put]); refine GG.tk 12 (v := ?_) rfl (by kernel_rfl) (fun _ _ _ h => h) (by rfl) (by assumption) ?_ ?_; rotate_left; (focus (intro w h; (try dsimp only at h); go_simp; (try with_reducible rfl))); (try simp only [Act.put]); refine GG.tk 13 (v := ?_) rfl (by kernel_rfl) (fun _ _ _ h => h) (by rfl) (by assumption) ?_ ?_; rotate_left; (focus (intro w h; (try dsimp only at h); go_simp; (try with_reducible rfl))); (try simp only [Act.put]))
    have H3 := H2.drew.alloc #[.int .i64 3, .string ⟨s⟩, .int .i64 0, .int .i64 0] 83
    have own7 := H3.row (v := .slice A L.length c) (by with_reducible repeat constructor)
    (refine GG.one 14 (by kernel_rfl) (by decide) rfl (fun K hK => ?_); go_simp; refine hK.out _ _ ?_ (fun hHeld => ?_); (focus (try dsimp only); go_keep); clear hK K; (try simp only [Act.put, qqa, qqb, qqc]))
    (refine GG.one 15 (by kernel_rfl) (by decide) rfl (fun K hK => ?_); (refine step_app3 (v := .slice A L.length c) (by rfl) _ _ stTk (by rfl) (by rfl) own7 (by rfl) (news := [.int .i64 3, .string ⟨s⟩, .int .i64 0, .int .i64 0]) (by rfl) (litRd (heap_alloc_new _ _)) (fun h => by cases h) (by intro u hu; simp at hu; (repeat' (rcases hu with rfl | hu)); all_goals (first | rfl | (subst hu; rfl))) (by omega) (by first | exact Nat.zero_le _ | omega | (simp; omega)) ?_; intro vA wA ownA gA atA; have H5 := H3.app (v := .slice A L.length c) (by with_reducible repeat constructor) ownA gA atA; have hB := HS.box (z := wb) H5 (by with_reducible repeat constructor); have hL := Box.lt hB; obtain ⟨hcB, hfB⟩ := Box.cells hB; have h0 := hcB 0; have hf0 := hfB 0; clear hcB hfB; have kB := HS.box (z := eb) H5 (by with_reducible repeat constructor); have kL := Box.lt kB; obtain ⟨hcB, hfB⟩ := Box.cells kB; have k0 := hcB 0; have kf0 := hfB 0; clear hcB hfB; unfold ewC at k0; have mB := HS.box (z := z) H5 (by with_reducible repeat constructor); have mL := Box.lt mB; obtain ⟨hcB, hfB⟩ := Box.cells mB; have m2 := hcB 2; have mf2 := hfB 2; clear hcB hfB; obtain ⟨AB, cB, rfl, -, -⟩ := own_slice ownA; clear ownA gA atA); refine hK.out _ _ ?_ (fun hHeld => ?_); (focus (try dsimp only); go_keep); clear hK K; (try simp only [Act.put, qqa]))
    (refine GG.tk 16 (v := ?_) rfl (by kernel_rfl) (fun _ _ _ h => h) (by rfl) (by assumption) ?_ ?_; rotate_left; (focus (intro w h; (try dsimp only at h); go_simp; (try with_reducible rfl))); (try simp only [Act.put]); refine GG.tk 17 (v := ?_) rfl (by kernel_rfl) (fun _ _ _ h => h) (by rfl) (by assumption) ?_ ?_; rotate_left; (focus (intro w h; (try dsimp only at h); go_simp; (try with_reducible rfl))); (try simp only [Act.put]))
    (refine GG.last (by kernel_rfl) (by kernel_rfl) rfl (fun K hK => ?_); go_simp; refine hK.out _ _ ?_; clear hK K)
    go_wp2_with fail
    go_end0
    refine ⟨rfl, ?_⟩
    exact (HS.wPush (t := ⟨3, s.toList, 0, 0⟩) rfl ((H5.storeTo (z := wb) (by with_reducible repeat constructor) 0 (.slice AB (L.length + 1) cB) #[.slice AB (L.length + 1) cB] rfl).sub (l' := boxA wb #[.slice AB (L.length + 1) cB] 70 :: rowA 83 4 (.slice AB (L.length + 1) cB) (L.length + 1) (L.flatMap Tk.cells ++ [.int .i64 3, .string ⟨s⟩, .int .i64 0, .int .i64 0]) :: boxA eb (ewC wb t1 t2 t3) 99 :: l) (by with_reducible repeat constructor))).sub (by with_reducible repeat constructor)
  · have hk1 : (k == 2) = false := by simpa using hk
    obtain ⟨hn1, hn2⟩ := hn hk
    by_cases h3 : n < 0
    · rw [show constW ⟨k, n, ⟨s⟩⟩ = [wdK [45], numK (-n)] by unfold constW; rw [if_neg hk, if_pos h3]]
      have hneg : IntKind.i64.wrap (-n) = -n := IntWalk.i64_in _ (by omega)
      have HL := Lib.hid (show (L ++ [wdK [45]]).length ≤ 1001000 by rw [List.length_append, List.length_singleton]; omega)
      clear hk hv h0 hn
      have hW := write1_s [45] (by simp) hL (H1.sub (l' := wA wb L :: boxA eb (ewC wb t1 t2 t3) 99 :: boxA z #[.int .i64 k, .int .i64 n, .string ⟨s⟩] 28 :: l) (by with_reducible repeat constructor))
      unfold WdPost at hW
      clear H1
      go_enter Tryz.func58, Tryz.ntmps58
      go_upto_region 5 with fail
      (try rw [ez]); (try rw [ew])
      clear ez ew
      go_upto_region 6 with (go_at_call 60; (with_reducible refine hW.mono ?_); rintro e w2 ⟨rfl, H2⟩)
      clear d0 df0 x0 x1 x2 xf0 xf1 xf2 dB dL xB xL hW
      have dB := HS.box (z := eb) H2 (by with_reducible repeat constructor); have dL := Box.lt dB; obtain ⟨hcB, hfB⟩ := Box.cells dB; have d0 := hcB 0; have df0 := hfB 0; clear hcB hfB; unfold ewC at d0
      have xB := HS.box (z := z) H2 (by with_reducible repeat constructor); have xL := Box.lt xB; obtain ⟨hcB, hfB⟩ := Box.cells xB; have x0 := hcB 0; have xf0 := hfB 0; have x1 := hcB 1; have xf1 := hfB 1; have x2 := hcB 2; have xf2 := hfB 2; clear hcB hfB
      have hN := number_w (-n) HL.out H2.drew
      (refine wp_region_G 7 (fun w' => w'.cell? ⟨eb, 0, none⟩ = some (.pointer (some ⟨wb, 0, none⟩)) ∧ w'.cell? ⟨z, 1, none⟩ = some (.int .i64 n)) (by kernel_rfl) ?_ (fun hHeld => ?_); (focus (try dsimp only); go_keep))
      (refine GG.tk 0 (v := ?_) rfl (by kernel_rfl) (fun _ _ _ h => h) (by rfl) (by assumption) ?_ ?_; rotate_left; (focus (intro w h; (try dsimp only at h); go_simp; (try with_reducible rfl))); (try simp only [Act.put, qqa]); refine GG.tk 1 (v := ?_) rfl (by kernel_rfl) (fun _ _ _ h => h) (by rfl) (by assumption) ?_ ?_; rotate_left; (focus (intro w h; (try dsimp only at h); go_simp; (try with_reducible rfl))); (try simp only [Act.put]); refine GG.tk 2 (v := ?_) rfl (by kernel_rfl) (fun _ _ _ h => h) (by rfl) (by assumption) ?_ ?_; rotate_left; (focus (intro w h; (try dsimp only at h); go_simp; (try with_reducible rfl))); (try simp only [Act.put]); refine GG.tk 3 (v := ?_) rfl (by kernel_rfl) (fun _ _ _ h => h) (by rfl) (by assumption) ?_ ?_; rotate_left; (focus (intro w h; (try dsimp only at h); go_simp; (try with_reducible rfl))); (try simp only [Act.put]); refine GG.tk 4 (v := ?_) rfl (by kernel_rfl) (fun _ _ _ h => h) (by rfl) (by assumption) ?_ ?_; rotate_left; (focus (intro w h; (try dsimp only at h); go_simp; (try with_reducible rfl))); (try simp only [Act.put]); refine GG.tk 5 (v := ?_) rfl (by kernel_rfl) (fun _ _ _ h => h) (by rfl) (by assumption) ?_ ?_; rotate_left; (focus (intro w h; (try dsimp only at h); go_simp; (try with_reducible rfl))); (try simp only [Act.put]); refine GG.tk 6 (v := ?_) rfl (by kernel_rfl) (fun _ _ _ h => h) (by rfl) (by assumption) ?_ ?_; rotate_left; (focus (intro w h; (try dsimp only at h); go_simp; (try with_reducible rfl))); (try simp only [Act.put]))
      (refine GG.last (by kernel_rfl) (by kernel_rfl) rfl (fun K hK => ?_); (go_simp; go_at_call 96; (with_reducible refine hN.mono ?_); rintro e w3 ⟨rfl, H3⟩); refine hK.out _ _ ?_; clear hK K)
      go_wp2_with fail
      go_end0
      refine ⟨rfl, ?_⟩
      rw [show L ++ [wdK [45], numK (-n)] = (L ++ [wdK [45]]) ++ [numK (-n)] by rw [List.append_assoc]; rfl]
      exact H3.sub (by with_reducible repeat constructor)
    · rw [show constW ⟨k, n, ⟨s⟩⟩ = [numK n] by unfold constW; rw [if_neg hk, if_neg h3]]
      have hN := number_w n (by omega) ((H1.sub (l' := wA wb L :: boxA eb (ewC wb t1 t2 t3) 99 :: boxA z #[.int .i64 k, .int .i64 n, .string ⟨s⟩] 28 :: l) (by with_reducible repeat constructor)).drew)
      clear hk hv h0 hn H1
      go_enter Tryz.func58, Tryz.ntmps58
      go_upto_region 1 with fail
      (try rw [ez]); (try rw [ew])
      clear ez ew
      (refine wp_region_G 6 (fun w' => w'.cell? ⟨eb, 0, none⟩ = some (.pointer (some ⟨wb, 0, none⟩)) ∧ w'.cell? ⟨z, 1, none⟩ = some (.int .i64 n)) (by kernel_rfl) ?_ (fun hHeld => ?_); (focus (try dsimp only); go_keep))
      (refine GG.tk 0 (v := ?_) rfl (by kernel_rfl) (fun _ _ _ h => h) (by rfl) (by assumption) ?_ ?_; rotate_left; (focus (intro w h; (try dsimp only at h); go_simp; (try with_reducible rfl))); (try simp only [Act.put, qqa]); refine GG.tk 1 (v := ?_) rfl (by kernel_rfl) (fun _ _ _ h => h) (by rfl) (by assumption) ?_ ?_; rotate_left; (focus (intro w h; (try dsimp only at h); go_simp; (try with_reducible rfl))); (try simp only [Act.put]); refine GG.tk 2 (v := ?_) rfl (by kernel_rfl) (fun _ _ _ h => h) (by rfl) (by assumption) ?_ ?_; rotate_left; (focus (intro w h; (try dsimp only at h); go_simp; (try with_reducible rfl))); (try simp only [Act.put]); refine GG.tk 3 (v := ?_) rfl (by kernel_rfl) (fun _ _ _ h => h) (by rfl) (by assumption) ?_ ?_; rotate_left; (focus (intro w h; (try dsimp only at h); go_simp; (try with_reducible rfl))); (try simp only [Act.put]); refine GG.tk 4 (v := ?_) rfl (by kernel_rfl) (fun _ _ _ h => h) (by rfl) (by assumption) ?_ ?_; rotate_left; (focus (intro w h; (try dsimp only at h); go_simp; (try with_reducible rfl))); (try simp only [Act.put]); refine GG.tk 5 (v := ?_) rfl (by kernel_rfl) (fun _ _ _ h => h) (by rfl) (by assumption) ?_ ?_; rotate_left; (focus (intro w h; (try dsimp only at h); go_simp; (try with_reducible rfl))); (try simp only [Act.put]))
      (refine GG.last (by kernel_rfl) (by kernel_rfl) rfl (fun K hK => ?_); (go_simp; go_at_call 96; (with_reducible refine hN.mono ?_); rintro e w3 ⟨rfl, H3⟩); refine hK.out _ _ ?_; clear hK K)
      go_wp2_with fail
      go_end0
      exact ⟨rfl, H3.sub (by with_reducible repeat constructor)⟩
end Go.Proofs.YtgnmnaclndkmdaaGreatDoor
namespace Go.Proofs.YtgnmnaclndkmdaaGreatDoor
open Go.RowKit

set_option maxRecDepth 100000 in
set_option maxHeartbeats 4000000 in
theorem reference_s {w0 w : World} {l l' : List HA} {eb wb ln lc rn rc : Nat} {t1 : Value} {LA DA : Option Addr} {left right : List Bs} {L : List Tk} (c : Nat) (hc : c < ln + rn) (hl : RowB w0 w0.heap.size LA ln left) (hr : RowB w0 w0.heap.size DA rn right) (hln : ln ≤ 1000000) (hrn : rn ≤ 1000000) (hnm : (colName left right c).length ≤ 1000000) (hL : L.length ≤ 1000000)
    (H : HS w (boxA eb (ewC wb t1 (.slice LA ln lc) (.slice DA rn rc)) 99 :: wA wb L :: l)) (ho : Pick l (oldA w0) l') :
    Calls Tryz.prog 59 #[.pointer (some ⟨eb, 0, none⟩), .int .i64 (c : Int)] w (WrPost eb wb t1 (.slice LA ln lc) (.slice DA rn rc) (L ++ refW left right c) l (.tuple #[])) := by
  have hll := hl.len
  have Hd := H.drew
  have hb := Hd.old (.there (.there ho))
  have hN := columnName_c (lc := lc) (rc := rc) c ((hl.below hb).more hb.size) ((hr.below hb).more hb.size) hln hrn hc
  have Hw := Hd.sub (l' := wA wb L :: boxA eb (ewC wb t1 (.slice LA ln lc) (.slice DA rn rc)) 99 :: l) (by with_reducible repeat constructor)
  have dB := HS.box (z := eb) H (by with_reducible repeat constructor); have dL := Box.lt dB; obtain ⟨hcB, hfB⟩ := Box.cells dB; have d0 := hcB 0; have df0 := hfB 0; have d2 := hcB 2; have df2 := hfB 2; have d3 := hcB 3; have df3 := hfB 3; clear hcB hfB; unfold ewC at d0 d2 d3
  unfold WrPost refW
  rw [hll]
  have h0 : (0 : Int) ≤ (c : Int) := by omega
  generalize colName left right c = nm at hN hnm ⊢
  clear H hl hr hb hll Hd
  by_cases h : ln ≤ c
  · rw [if_pos h]
    have h1 : (ln : Int) ≤ (c : Int) := by omega
    have hW := write3_s wRight [46] nm (by decide) (by decide) hnm hL Hw
    unfold WdPost at hW
    unfold wRight at hW ⊢
    go_enter Tryz.func59, Tryz.ntmps59
    go_upto_region 0 with fail
    (refine wp_region_G 10 (fun w' => w'.cell? ⟨eb, 2, none⟩ = some (.slice LA ln lc) ∧ w'.cell? ⟨eb, 3, none⟩ = some (.slice DA rn rc)) (by kernel_rfl) ?_ (fun hHeld => ?_); (focus (try dsimp only); go_keep))
    (refine GG.tk 0 (v := ?_) rfl (by kernel_rfl) (fun _ _ _ h => h) (by rfl) (by assumption) ?_ ?_; rotate_left; (focus (intro w h; (try dsimp only at h); go_simp; (try with_reducible rfl))); (try simp only [Act.put, qqa]); refine GG.tk 1 (v := ?_) rfl (by kernel_rfl) (fun _ _ _ h => h) (by rfl) (by assumption) ?_ ?_; rotate_left; (focus (intro w h; (try dsimp only at h); go_simp; (try with_reducible rfl))); (try simp only [Act.put]); refine GG.tk 2 (v := ?_) rfl (by kernel_rfl) (fun _ _ _ h => h) (by rfl) (by assumption) ?_ ?_; rotate_left; (focus (intro w h; (try dsimp only at h); go_simp; (try with_reducible rfl))); (try simp only [Act.put]); refine GG.tk 3 (v := ?_) rfl (by kernel_rfl) (fun _ _ _ h => h) (by rfl) (by assumption) ?_ ?_; rotate_left; (focus (intro w h; (try dsimp only at h); go_simp; (try with_reducible rfl))); (try simp only [Act.put]); refine GG.tk 4 (v := ?_) rfl (by kernel_rfl) (fun _ _ _ h => h) (by rfl) (by assumption) ?_ ?_; rotate_left; (focus (intro w h; (try dsimp only at h); go_simp; (try with_reducible rfl))); (try simp only [Act.put]); refine GG.tk 5 (v := ?_) rfl (by kernel_rfl) (fun _ _ _ h => h) (by rfl) (by assumption) ?_ ?_; rotate_left; (focus (intro w h; (try dsimp only at h); go_simp; (try with_reducible rfl))); (try simp only [Act.put]); refine GG.tk 6 (v := ?_) rfl (by kernel_rfl) (fun _ _ _ h => h) (by rfl) (by assumption) ?_ ?_; rotate_left; (focus (intro w h; (try dsimp only at h); go_simp; (try with_reducible rfl))); (try simp only [Act.put]); refine GG.tk 7 (v := ?_) rfl (by kernel_rfl) (fun _ _ _ h => h) (by rfl) (by assumption) ?_ ?_; rotate_left; (focus (intro w h; (try dsimp only at h); go_simp; (try with_reducible rfl))); (try simp only [Act.put]); refine GG.tk 8 (v := ?_) rfl (by kernel_rfl) (fun _ _ _ h => h) (by rfl) (by assumption) ?_ ?_; rotate_left; (focus (intro w h; (try dsimp only at h); go_simp; (try with_reducible rfl))); (try simp only [Act.put]))
    (refine GG.one 9 (by kernel_rfl) (by decide) rfl (fun K hK => ?_); (go_simp; go_at_call 19; (with_reducible refine hN.mono ?_); rintro e w2 ⟨rfl, rfl⟩); refine hK.out _ _ ?_ (fun hHeld => ?_); (focus (try dsimp only); go_keep); clear hK K; (try simp only [Act.put, qqa, qqb, qqc]))
    (refine GG.last (by kernel_rfl) (by kernel_rfl) rfl (fun K hK => ?_); go_simp; refine hK.out _ _ ?_; clear hK K)
    go_wp2_with (go_at_call 60; refine hW.mono ?_; rintro e w3 ⟨rfl, H3⟩)
    go_end0
    exact ⟨rfl, H3.sub (by with_reducible repeat constructor)⟩
  · rw [if_neg h]
    have h1 : ¬ (ln : Int) ≤ (c : Int) := by omega
    by_cases hq : nm = wNot
    · rw [if_pos hq]
      have e1 : (nm == [110, 111, 116]) = true := by rw [hq]; rfl
      have hW := write3_s wLeft [46] nm (by decide) (by decide) hnm hL Hw
      unfold WdPost at hW
      rw [show wdK wNot = wdK nm by rw [hq]]
      unfold wLeft at hW ⊢
      clear hq
      go_enter Tryz.func59, Tryz.ntmps59
      go_upto_region 0 with fail
      (refine wp_region_G 10 (fun w' => w'.cell? ⟨eb, 2, none⟩ = some (.slice LA ln lc) ∧ w'.cell? ⟨eb, 3, none⟩ = some (.slice DA rn rc)) (by kernel_rfl) ?_ (fun hHeld => ?_); (focus (try dsimp only); go_keep))
      (refine GG.tk 0 (v := ?_) rfl (by kernel_rfl) (fun _ _ _ h => h) (by rfl) (by assumption) ?_ ?_; rotate_left; (focus (intro w h; (try dsimp only at h); go_simp; (try with_reducible rfl))); (try simp only [Act.put, qqa]); refine GG.tk 1 (v := ?_) rfl (by kernel_rfl) (fun _ _ _ h => h) (by rfl) (by assumption) ?_ ?_; rotate_left; (focus (intro w h; (try dsimp only at h); go_simp; (try with_reducible rfl))); (try simp only [Act.put]); refine GG.tk 2 (v := ?_) rfl (by kernel_rfl) (fun _ _ _ h => h) (by rfl) (by assumption) ?_ ?_; rotate_left; (focus (intro w h; (try dsimp only at h); go_simp; (try with_reducible rfl))); (try simp only [Act.put]); refine GG.tk 3 (v := ?_) rfl (by kernel_rfl) (fun _ _ _ h => h) (by rfl) (by assumption) ?_ ?_; rotate_left; (focus (intro w h; (try dsimp only at h); go_simp; (try with_reducible rfl))); (try simp only [Act.put]); refine GG.tk 4 (v := ?_) rfl (by kernel_rfl) (fun _ _ _ h => h) (by rfl) (by assumption) ?_ ?_; rotate_left; (focus (intro w h; (try dsimp only at h); go_simp; (try with_reducible rfl))); (try simp only [Act.put]); refine GG.tk 5 (v := ?_) rfl (by kernel_rfl) (fun _ _ _ h => h) (by rfl) (by assumption) ?_ ?_; rotate_left; (focus (intro w h; (try dsimp only at h); go_simp; (try with_reducible rfl))); (try simp only [Act.put]); refine GG.tk 6 (v := ?_) rfl (by kernel_rfl) (fun _ _ _ h => h) (by rfl) (by assumption) ?_ ?_; rotate_left; (focus (intro w h; (try dsimp only at h); go_simp; (try with_reducible rfl))); (try simp only [Act.put]); refine GG.tk 7 (v := ?_) rfl (by kernel_rfl) (fun _ _ _ h => h) (by rfl) (by assumption) ?_ ?_; rotate_left; (focus (intro w h; (try dsimp only at h); go_simp; (try with_reducible rfl))); (try simp only [Act.put]); refine GG.tk 8 (v := ?_) rfl (by kernel_rfl) (fun _ _ _ h => h) (by rfl) (by assumption) ?_ ?_; rotate_left; (focus (intro w h; (try dsimp only at h); go_simp; (try with_reducible rfl))); (try simp only [Act.put]))
      (refine GG.one 9 (by kernel_rfl) (by decide) rfl (fun K hK => ?_); (go_simp; go_at_call 19; (with_reducible refine hN.mono ?_); rintro e w2 ⟨rfl, rfl⟩); refine hK.out _ _ ?_ (fun hHeld => ?_); (focus (try dsimp only); go_keep); clear hK K; (try simp only [Act.put, qqa, qqb, qqc]))
      (refine GG.last (by kernel_rfl) (by kernel_rfl) rfl (fun K hK => ?_); go_simp; refine hK.out _ _ ?_; clear hK K)
      go_wp2_with (go_at_call 60; refine hW.mono ?_; rintro e w3 ⟨rfl, H3⟩)
      go_end0
      exact ⟨rfl, H3.sub (by with_reducible repeat constructor)⟩
    · rw [if_neg hq]
      have e1 : (nm == [110, 111, 116]) = false := by simpa [wNot] using hq
      have hW := write1_s nm hnm hL Hw
      unfold WdPost at hW
      clear hq
      go_enter Tryz.func59, Tryz.ntmps59
      go_upto_region 0 with fail
      (refine wp_region_G 10 (fun w' => w'.cell? ⟨eb, 2, none⟩ = some (.slice LA ln lc) ∧ w'.cell? ⟨eb, 3, none⟩ = some (.slice DA rn rc)) (by kernel_rfl) ?_ (fun hHeld => ?_); (focus (try dsimp only); go_keep))
      (refine GG.tk 0 (v := ?_) rfl (by kernel_rfl) (fun _ _ _ h => h) (by rfl) (by assumption) ?_ ?_; rotate_left; (focus (intro w h; (try dsimp only at h); go_simp; (try with_reducible rfl))); (try simp only [Act.put, qqa]); refine GG.tk 1 (v := ?_) rfl (by kernel_rfl) (fun _ _ _ h => h) (by rfl) (by assumption) ?_ ?_; rotate_left; (focus (intro w h; (try dsimp only at h); go_simp; (try with_reducible rfl))); (try simp only [Act.put]); refine GG.tk 2 (v := ?_) rfl (by kernel_rfl) (fun _ _ _ h => h) (by rfl) (by assumption) ?_ ?_; rotate_left; (focus (intro w h; (try dsimp only at h); go_simp; (try with_reducible rfl))); (try simp only [Act.put]); refine GG.tk 3 (v := ?_) rfl (by kernel_rfl) (fun _ _ _ h => h) (by rfl) (by assumption) ?_ ?_; rotate_left; (focus (intro w h; (try dsimp only at h); go_simp; (try with_reducible rfl))); (try simp only [Act.put]); refine GG.tk 4 (v := ?_) rfl (by kernel_rfl) (fun _ _ _ h => h) (by rfl) (by assumption) ?_ ?_; rotate_left; (focus (intro w h; (try dsimp only at h); go_simp; (try with_reducible rfl))); (try simp only [Act.put]); refine GG.tk 5 (v := ?_) rfl (by kernel_rfl) (fun _ _ _ h => h) (by rfl) (by assumption) ?_ ?_; rotate_left; (focus (intro w h; (try dsimp only at h); go_simp; (try with_reducible rfl))); (try simp only [Act.put]); refine GG.tk 6 (v := ?_) rfl (by kernel_rfl) (fun _ _ _ h => h) (by rfl) (by assumption) ?_ ?_; rotate_left; (focus (intro w h; (try dsimp only at h); go_simp; (try with_reducible rfl))); (try simp only [Act.put]); refine GG.tk 7 (v := ?_) rfl (by kernel_rfl) (fun _ _ _ h => h) (by rfl) (by assumption) ?_ ?_; rotate_left; (focus (intro w h; (try dsimp only at h); go_simp; (try with_reducible rfl))); (try simp only [Act.put]); refine GG.tk 8 (v := ?_) rfl (by kernel_rfl) (fun _ _ _ h => h) (by rfl) (by assumption) ?_ ?_; rotate_left; (focus (intro w h; (try dsimp only at h); go_simp; (try with_reducible rfl))); (try simp only [Act.put]))
      (refine GG.one 9 (by kernel_rfl) (by decide) rfl (fun K hK => ?_); (go_simp; go_at_call 19; (with_reducible refine hN.mono ?_); rintro e w2 ⟨rfl, rfl⟩); refine hK.out _ _ ?_ (fun hHeld => ?_); (focus (try dsimp only); go_keep); clear hK K; (try simp only [Act.put, qqa, qqb, qqc]))
      (refine GG.last (by kernel_rfl) (by kernel_rfl) rfl (fun K hK => ?_); go_simp; refine hK.out _ _ ?_; clear hK K)
      go_wp2_with (go_at_call 60; refine hW.mono ?_; rintro e w3 ⟨rfl, H3⟩)
      go_end0
      exact ⟨rfl, H3.sub (by with_reducible repeat constructor)⟩
end Go.Proofs.YtgnmnaclndkmdaaGreatDoor
namespace Go.Proofs.YtgnmnaclndkmdaaGreatDoor
open Go.RowKit

/-- write at place pos writes the tokens W and answers q. -/
def WC (w0 : World) (eb wb : Nat) (t1 t2 t3 : Value) (pos q : Nat) (W : List Tk) : Prop := ∀ (w : World) (l l' : List HA) (L : List Tk), L.length + W.length ≤ 1000000 → HS w (boxA eb (ewC wb t1 t2 t3) 99 :: wA wb L :: l) → Pick l (oldA w0) l' →
  Calls Tryz.prog 37 #[.pointer (some ⟨eb, 0, none⟩), .int .i64 (pos : Int)] w (WrPost eb wb t1 t2 t3 (L ++ W) l (.int .i64 (q : Int)))
def operT (t : T) (neg : Bool) (W : List Tk) : List Tk := if bareW t neg = true then W else wdK [40] :: (W ++ [wdK [41]])
set_option maxRecDepth 100000 in
set_option maxHeartbeats 4000000 in
theorem operand_s {w0 : World} {eb wb tn tc pos q : Nat} {TA : Option Addr} {t2 t3 : Value} {es : List T} {W : List Tk} (t : T) (hT : RowT w0 w0.heap.size TA tn es) (ht : es[pos]? = some t) (_htn : tn ≤ 1000) (h1 : 1 ≤ t.op) (h2 : t.op ≤ 18) (hW : WC w0 eb wb (.slice TA tn tc) t2 t3 pos q W) (neg : Bool)
    {w : World} {l l' : List HA} {L : List Tk} (hL : L.length + (operT t neg W).length ≤ 1000000) (H : HS w (boxA eb (ewC wb (.slice TA tn tc) t2 t3) 99 :: wA wb L :: l)) (ho : Pick l (oldA w0) l') :
    Calls Tryz.prog 64 #[.pointer (some ⟨eb, 0, none⟩), .int .i64 (pos : Int), .bool neg] w (WrPost eb wb (.slice TA tn tc) t2 t3 (L ++ operT t neg W) l (.int .i64 (q : Int))) := by
  have hb := H.old (.there (.there ho))
  have hlt : pos < tn := by
    have := (List.getElem?_eq_some_iff.1 ht).1
    rw [hT.len] at this
    exact this
  obtain ⟨b, off, t', rfl, hbb, ht', c0, c1, c2, c3, c4⟩ := RowT.at5 ((hT.below hb).more hb.size) hlt
  obtain rfl := Option.some.inj (ht'.symm.trans ht)
  have hp0 : (0 : Int) ≤ (pos : Int) := by omega
  have hp1 : (pos : Int) < (tn : Int) := by omega
  have dB := HS.box (z := eb) H (by with_reducible repeat constructor); have dL := Box.lt dB; obtain ⟨hcB, hfB⟩ := Box.cells dB; have d0 := hcB 0; have df0 := hfB 0; have d1 := hcB 1; have df1 := hfB 1; clear hcB hfB; unfold ewC at d0 d1
  have hI := isBare_c (w := w) eb t' neg h1 h2
  unfold operT at hL ⊢
  unfold WC at hW
  unfold WrPost at hW ⊢
  clear hb ht ht' hT h1 h2 hlt
  cases hbr : bareW t' neg with
  | true =>
    rw [hbr, if_pos rfl] at hL
    rw [hbr] at hI
    rw [if_pos rfl]
    have hC := fun w1 H1 => hW w1 l l' L hL H1 ho
    clear hbr hW ho
    go_enter Tryz.func64, Tryz.ntmps64
    go_wp2_with (first
      | (go_at_call 97; (with_reducible refine hI.mono ?_); rintro e w2 ⟨rfl, hb2⟩; have H2 := H.below hb2)
      | (go_at_call 37; (with_reducible refine (hC _ H2).mono ?_); rintro e w3 ⟨rfl, H3⟩))
    go_ret
    exact ⟨rfl, H3⟩
  | false =>
    rw [hbr, if_neg (by simp), List.length_cons, List.length_append, List.length_singleton] at hL
    rw [hbr] at hI
    rw [if_neg (by simp)]
    have hC := fun w1 H1 => hW w1 l l' (L ++ [wdK [40]]) (by rw [List.length_append, List.length_singleton]; omega) H1 ho
    have HL1 := Lib.hid (show L.length ≤ 1000000 by omega)
    have HL2 := Lib.hid (show ((L ++ [wdK [40]]) ++ W).length ≤ 1000000 by rw [List.length_append, List.length_append, List.length_singleton]; omega)
    have HE := Lib.hid (show L ++ wdK [40] :: (W ++ [wdK [41]]) = ((L ++ [wdK [40]]) ++ W) ++ [wdK [41]] by simp)
    rw [HE.out]
    clear hbr hW ho hL
    go_enter Tryz.func64, Tryz.ntmps64
    go_upto_region 3 with (go_at_call 97; (with_reducible refine hI.mono ?_); rintro e w2 ⟨rfl, hb2⟩; have H2 := H.below hb2)
    clear c0 c1 c2 c3 c4 d0 d1 df0 df1 dB dL H hI
    have dB := HS.box (z := eb) H2 (by with_reducible repeat constructor); have dL := Box.lt dB; obtain ⟨hcB, hfB⟩ := Box.cells dB; have d0 := hcB 0; have df0 := hfB 0; clear hcB hfB; unfold ewC at d0
    have hW1 := write1_s [40] (by simp) HL1.out (H2.sub (l' := wA wb L :: boxA eb (ewC wb (.slice (some ⟨b, off, none⟩) tn tc) t2 t3) 99 :: l) (by with_reducible repeat constructor))
    unfold WdPost at hW1
    go_upto_region 5 with (first
      | (go_at_call 60; (with_reducible refine hW1.mono ?_); rintro e w3 ⟨rfl, H3⟩)
      | (go_at_call 37; (with_reducible refine (hC _ (H3.sub (by with_reducible repeat constructor))).mono ?_); rintro e w4 ⟨rfl, H4⟩))
    clear d0 df0 dB dL H2 hW1 H3
    have dB := HS.box (z := eb) H4 (by with_reducible repeat constructor); have dL := Box.lt dB; obtain ⟨hcB, hfB⟩ := Box.cells dB; have d0 := hcB 0; have df0 := hfB 0; clear hcB hfB; unfold ewC at d0
    have hW2 := write1_s [41] (by simp) HL2.out (H4.sub (l' := wA wb ((L ++ [wdK [40]]) ++ W) :: boxA eb (ewC wb (.slice (some ⟨b, off, none⟩) tn tc) t2 t3) 99 :: l) (by with_reducible repeat constructor))
    unfold WdPost at hW2
    go_wp2_with (go_at_call 60; (with_reducible refine hW2.mono ?_); rintro e w5 ⟨rfl, H5⟩)
    go_ret
    exact ⟨rfl, H5.sub (by with_reducible repeat constructor)⟩
end Go.Proofs.YtgnmnaclndkmdaaGreatDoor
