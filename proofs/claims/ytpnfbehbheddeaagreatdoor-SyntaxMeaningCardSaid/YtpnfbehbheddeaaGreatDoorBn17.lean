/- Contract of appendTerms: the terms of a tree, with the columns of its references. The numbers of references are in range; at most 1000000 terms. -/
import Derived.Test.YtpnfbehbheddeaaGreatDoorBn12
import Derived.Test.YtpnfbehbheddeaaGreatDoorBn16
namespace Go.Proofs.YtpnfbehbheddeaaGreatDoor
set_option maxRecDepth 100000
set_option maxHeartbeats 8000000
set_option linter.unusedVariables false
set_option linter.unusedSimpArgs false
open Go.RowKit
theorem stT' : SliceTy Tryz.prog 27 40 5 48 := SliceTy.mk' Tryz.underlying27 (z := .agg #[.int .i64 0, .int .i64 0, .int .i64 0, .string ⟨#[]⟩, .int .i64 0]) (by kernel_rfl) rfl (by decide) (by decide)
theorem deepest_mem {x : X} : ∀ {ks : List X}, x ∈ ks → x.depth ≤ deepest ks := by
  intro ks
  induction ks with
  | nil => intro h; simp at h
  | cons y ys ih =>
    intro h
    simp only [deepest]
    rcases List.mem_cons.1 h with rfl | h
    · omega
    · have := ih h; omega
theorem mem_flats {x : X} {t : T} : ∀ {ks : List X}, x ∈ ks → t ∈ x.flat → t ∈ flats ks := by
  intro ks
  induction ks with
  | nil => intro h; simp at h
  | cons y ys ih =>
    intro h ht
    rw [flats_cons]
    rcases List.mem_cons.1 h with rfl | h
    · exact List.mem_append_left _ ht
    · exact List.mem_append_right _ (ih h ht)
theorem own_pfr {S : Nat → Prop} {w w' : World} {base : Nat} {e : TypeId} {size : Nat} {v : Value} {n : Nat} {xs : List Value} (h : w.ownsRow base e size v n xs) (hf : PFr S w w') (hn : ∀ k, v.ownBlock = some k → ¬ S k) : w'.ownsRow base e size v n xs := by
  refine ⟨h.1, ?_⟩
  rcases h.2 with h2 | ⟨g, cap, cur, h3, h4, h5, h6⟩
  · exact .inl h2
  · exact .inr ⟨g, cap, cur, h3, h4, (hf.block g (heap_lt h5) (hn g (by rw [h3]; rfl))).trans h5, h6⟩
theorem keepO_own {w w' : World} {base : Nat} {e : TypeId} {size : Nat} {v : Value} {n : Nat} {xs : List Value} (h : w.ownsRow base e size v n xs) (hf : PFr (fun k => v.ownBlock = some k) w w') : KeepO [e] w w' := fun k cs te hk ht => hf.block k (heap_lt hk) (by
  intro hv
  obtain ⟨cur, hc⟩ := ref_blk h hv
  rw [hc] at hk
  injection hk with hk
  injection hk with _ hk
  subst hk
  exact ht (List.mem_singleton.2 rfl))
theorem flats_take {ks : List X} {i : Nat} {k : X} (h : ks[i]? = some k) : flats (ks.take (i + 1)) = flats (ks.take i) ++ k.flat := by
  induction ks generalizing i with
  | nil => simp at h
  | cons y ys ih =>
    cases i with
    | zero => simp at h; subst h; simp [flats]
    | succ i =>
      simp at h
      rw [List.take_succ_cons, List.take_succ_cons, flats, flats, ih h, List.append_assoc]
theorem kids_at {B : Nat → Prop} {w : World} : ∀ (ks : List X) (l : List Nat) (i : Nat), KidsAt B w ks l → i < ks.length → ∃ k a, ks[i]? = some k ∧ l[i]? = some a ∧ TreeAt B w k a := by
  intro ks
  induction ks with
  | nil => intro l i _ hi; simp at hi
  | cons x ks ih =>
    intro l i h hi
    unfold KidsAt at h
    obtain ⟨a, m, rfl, h2, h3⟩ := h
    cases i with
    | zero => exact ⟨x, a, rfl, rfl, h2⟩
    | succ i =>
      obtain ⟨k, b, e1, e2, e3⟩ := ih m i h3 (by simpa using hi)
      exact ⟨k, b, by simpa using e1, by simpa using e2, e3⟩
theorem SlP.at1 {B : Nat → Prop} {w : World} {A : Option Addr} {n c : Nat} {l : List Nat} (h : SlP B w (.slice A n c) l) {i a : Nat} (hi : l[i]? = some a) : n = l.length ∧ ∃ g, A = some ⟨g, 0, none⟩ ∧ w.cell? ⟨g, i, none⟩ = some (.pointer (some ⟨a, 0, none⟩)) ∧ g < w.heap.size := by
  rcases h with ⟨rfl, _⟩ | ⟨g, cap, cur, _, h1, _, h3, _, _, h4⟩
  · simp at hi
  · injection h1 with h1 h5 h6
    refine ⟨h5, g, h1, ?_, heap_lt h3⟩
    rw [cell_of_row w g i cur _ (0, 0) h3, h4 i a hi]
    rfl
theorem SlP.slice {B : Nat → Prop} {w : World} {v : Value} {l : List Nat} (h : SlP B w v l) : ∃ A c, v = .slice A l.length c ∧ l.length ≤ maxLen ∧ ((∃ g, A = some ⟨g, 0, none⟩) ∨ l = []) := by
  rcases h with ⟨rfl, A, c, rfl⟩ | ⟨g, cap, cur, _, rfl, _, _, h1, h2, _⟩
  · exact ⟨A, c, rfl, Nat.zero_le _, .inr rfl⟩
  · exact ⟨_, _, rfl, by omega, .inl ⟨g, rfl⟩⟩
def TmPost (w : World) (base : Nat) (v : Value) (ts new : List T) (e : Ending) (w' : World) : Prop :=
  ∃ v', e = .returned v' ∧ w'.ownsRow base 40 5 v' (ts.length + new.length) ((ts ++ new).flatMap T.cells) ∧ PFr (fun k => v.ownBlock = some k) w w' ∧ (∀ k, v'.ownBlock = some k → k < w.heap.size → v.ownBlock = some k)
def accT (ts : List T) (cols : List Int) (t : T) (ks : List X) (i : Nat) : List T := ts ++ (putT cols t :: (flats (ks.take i)).map (putT cols))
theorem accT_succ {ts : List T} {cols : List Int} {t : T} {ks : List X} {i : Nat} {k : X} (h : ks[i]? = some k) : accT ts cols t ks (i + 1) = accT ts cols t ks i ++ k.flat.map (putT cols) := by
  unfold accT
  rw [flats_take h, List.map_append, ← List.cons_append, List.append_assoc]
theorem accT_len {ts : List T} {cols : List Int} {t : T} {ks : List X} {i : Nat} : (accT ts cols t ks i).length = ts.length + (1 + (flats (ks.take i)).length) := by
  unfold accT
  simp
  omega
def TkRel (w : World) (base : Nat) (v : Value) (ts : List T) (cols : List Int) (t : T) (ks : List X) (v1 vi : Value) (wr : World) : Prop :=
  ∃ i : Nat, vi = .int .i64 (i : Int) ∧ i ≤ ks.length ∧ wr.ownsRow base 40 5 v1 (accT ts cols t ks i).length ((accT ts cols t ks i).flatMap T.cells) ∧ PFr (fun k => v.ownBlock = some k) w wr ∧ (∀ k, v1.ownBlock = some k → k < w.heap.size → v.ownBlock = some k)
def iOf : Value → Nat
  | .int _ n => n.toNat
  | _ => 0
theorem appendTerms_c (base : Nat) (R : Option Addr) (m d : Nat) (cols : List Int) : ∀ (f : Nat) (x : X) (a : Nat) (B : Nat → Prop) (w : World) (v : Value) (ts : List T), x.depth ≤ f → TreeAt B w x a → w.ownsRow base 40 5 v ts.length (ts.flatMap T.cells) → RowI w base R m cols → base ≤ w.heap.size → (∀ t ∈ x.flat, t.op = 2 → 0 ≤ t.c ∧ t.c < m) → ts.length + x.flat.length ≤ 1000000 → Calls Tryz.prog 45 #[ptrV a, v, .slice R m d] w (TmPost w base v ts (x.flat.map (putT cols))) := by
  intro f
  induction f with
  | zero => intro x a B w v ts hd; have := x.depth_pos; omega
  | succ f ih =>
    intro x a B w v ts hd hT hown hcol hbase hr hlen
    obtain ⟨t, ks⟩ := x
    unfold TreeAt at hT
    obtain ⟨hba, u, l, hblk, hsl, hk⟩ := hT
    rw [X.flat_node] at hr hlen ⊢
    obtain ⟨AV, cV, rfl, hV1, hV2⟩ := own_slice hown
    obtain ⟨AU, cU, rfl, hUl, hAU0⟩ := hsl.slice
    have hkl := hk.len
    obtain ⟨hc, -⟩ := blk_cells hblk
    have c0 := hc 0
    have c1 := hc 1
    have c2 := hc 2
    have c3 := hc 3
    have c4 := hc 4
    have c5 := hc 5
    have hla := heap_lt hblk
    unfold nodeC at c0 c1 c2 c3 c4 c5
    clear hc
    have HR := Lib.hid hr
    unfold ptrV
    rcases hAU0 with ⟨gU, rfl⟩ | hl0
    · by_cases h2 : t.op = 2
      · have t2 : (t.op == 2) = true := by simpa using h2
        obtain ⟨hc0, hcm⟩ := hr t (by simp) h2
        obtain ⟨q, hq⟩ := Int.eq_ofNat_of_zero_le hc0
        obtain ⟨b2, off2, z2, rfl, hb2, hz2, hcell⟩ := RowI.at1 hcol (show q < m by omega)
        have HP := Lib.hid (show putT cols t = ⟨t.op, t.v, z2⟩ by
          unfold putT
          rw [if_pos h2, List.getD_eq_getElem?_getD, hq, Int.toNat_natCast, hz2]
          rfl)
        rw [hq] at c4
        have q0 : (0 : Int) ≤ (q : Int) := by omega
        have q1 : (q : Int) < (m : Int) := by omega
        have hb2l : b2 < w.heap.size := by omega
        clear h2 hr hz2 hcm hc0 hq
        go_enter Tryz.func45, Tryz.ntmps45
        go_wp2_with (at_builtin; refine wpList_app (v := .slice AV ts.length cV) rfl _ _ stT' rfl rfl ((own_below hown ((Below.refl w.heap.size w).alloc (Nat.le_refl _) _))) rfl (by simp) rfl (by simp [Value.oneCell']) (by omega) (by simp; omega) ?_; intro v3 w3 own3 g3 at3; have PF3 := ((PFr.refl (fun k => (Value.slice AV ts.length cV).ownBlock = some k) w).alloc _).grown g3 (fun k hk _ => hk); have K3 := keepO_own hown PF3; have hb3 := (K3 _ _ _ hblk (by decide)).trans hblk; obtain ⟨hcc, -⟩ := blk_cells hb3; have e5 := hcc 5; clear hcc; unfold nodeC at e5)
        go_loopw [1, 32] (fun v1 v32 wr => TkRel w base (.slice AV ts.length cV) ts cols t ks v1 v32 wr) (fun v1 v32 _ => ks.length - iOf v32)
        case atStart =>
          refine ⟨0, rfl, Nat.zero_le _, ?_, PF3, fun k hk hl => ?_⟩
          · have : accT ts cols t ks 0 = ts ++ [putT cols t] := by simp [accT, flats]
            rw [this, List.length_append, List.flatMap_append]
            simp only [List.flatMap_cons, List.flatMap_nil, List.append_nil, HP.out]
            exact own3
          · rcases at3 with at3 | at3
            · rw [at3] at hk; exact hk
            · rw [at3] at hk; injection hk with hk; simp at hk; omega
        case round =>
          obtain ⟨i, rfl, hi, hown1, hpf, hoc⟩ := hrel
          have K1 := keepO_own hown hpf
          have hzz := hpf.size
          have hal := accT_len (ts := ts) (cols := cols) (t := t) (ks := ks) (i := i)
          clear own3 g3 at3 PF3 K3 hb3
          by_cases hlt : i < ks.length
          · obtain ⟨k, b, hki, hli, TK⟩ := kids_at ks l i hk hlt
            obtain ⟨-, g, hAU, hcb, hg⟩ := (hsl.keep ⟨by decide, by decide⟩ (fun _ h _ => h) K1.b).at1 hli
            have TK2 := TreeAt.keep ⟨by decide, by decide⟩ (fun _ h _ => h) K1.b k b TK
            have hm := flats_take hki
            have hln := congrArg List.length hm
            have hlt2 := flats_takes ks (i + 1)
            rw [List.length_append] at hln
            have hdk : k.depth ≤ f := by
              have h1 : k ∈ ks := List.mem_of_getElem? hki
              have h2 := deepest_mem h1
              simp only [X.depth] at hd
              omega
            have hmem : ∀ t' ∈ k.flat, t' ∈ t :: flats ks := fun t' ht' => List.mem_cons_of_mem _ (mem_flats (List.mem_of_getElem? hki) ht')
            have ihk := ih k b B wr _ (accT ts cols t ks i) hdk TK2 hown1 ((hcol.keep fun q hq => World.cell?_of_block (hpf.block _ (by omega) fun e0 => by have := (hown.lt _ e0).1; omega)).more (Nat.le_refl _)) (by omega) (fun t' ht' h2' => HR.out t' (hmem t' ht') h2') (by rw [hal]; simp only [List.length_cons] at hlen; omega)
            unfold TmPost ptrV at ihk
            have h1 : (i : Int) < (l.length : Int) := by omega
            have h0 : (0 : Int) ≤ (i : Int) := by omega
            have hiw : IntKind.i64.wrap ((i : Int) + 1) = (i : Int) + 1 := IntWalk.i64_in _ (by unfold maxLen at hUl; omega)
            have HS := Lib.hid (accT_succ (ts := ts) (cols := cols) (t := t) hki)
            injection hAU with hAU
            injection hAU with hAU _
            subst hAU
            clear hki hli TK TK2 hm hln hlt2 hdk hmem hal
            go_wp2_with (refine ihk.mono ?_; rintro e w5 ⟨v5, rfl, own5, F5, O5⟩)
            go_roundw
            case rel =>
              refine ⟨i + 1, by go_num, by omega, ?_, hpf.trans F5 (fun k' hk' hs => hoc k' hs hk'), fun k' hk' hl' => hoc k' (O5 k' hk' (by omega)) hl'⟩
              rw [HS.out, List.length_append]
              exact own5
            case measure => simp [iOf]; omega
          · obtain rfl : i = ks.length := by omega
            have h1 : ¬ (ks.length : Int) < (l.length : Int) := by omega
            clear hcol
            rw [hal, List.take_length] at hown1
            obtain ⟨A1, c1', rfl, -, -⟩ := own_slice hown1
            have hfin : wr.ownsRow base 40 5 (.slice A1 (ts.length + (1 + (flats ks).length)) c1') (ts.length + (putT cols t :: (flats ks).map (putT cols)).length) ((ts ++ putT cols t :: (flats ks).map (putT cols)).flatMap T.cells) := by
              have h3 : accT ts cols t ks ks.length = ts ++ putT cols t :: (flats ks).map (putT cols) := by simp [accT]
              have h4 : ts.length + (putT cols t :: (flats ks).map (putT cols)).length = ts.length + (1 + (flats ks).length) := by simp; omega
              rw [← h3, h4]
              exact hown1
            clear hal
            go_wp2_with fail
            go_ret
            unfold TmPost
            refine ⟨.slice A1 (ts.length + (1 + (flats ks).length)) c1', rfl, ?_, hpf, hoc⟩
            first | exact hfin | (rw [List.map_cons]; exact hfin)
      · have t2 : (t.op == 2) = false := by simpa using h2
        have HP := Lib.hid (show putT cols t = t by unfold putT; rw [if_neg h2])
        clear h2 hr
        go_enter Tryz.func45, Tryz.ntmps45
        go_wp2_with (at_builtin; refine wpList_app (v := .slice AV ts.length cV) rfl _ _ stT' rfl rfl ((own_below hown ((Below.refl w.heap.size w).alloc (Nat.le_refl _) _))) rfl (by simp) rfl (by simp [Value.oneCell']) (by omega) (by simp; omega) ?_; intro v3 w3 own3 g3 at3; have PF3 := ((PFr.refl (fun k => (Value.slice AV ts.length cV).ownBlock = some k) w).alloc _).grown g3 (fun k hk _ => hk); have K3 := keepO_own hown PF3; have hb3 := (K3 _ _ _ hblk (by decide)).trans hblk; obtain ⟨hcc, -⟩ := blk_cells hb3; have e5 := hcc 5; clear hcc; unfold nodeC at e5)
        go_loopw [1, 32] (fun v1 v32 wr => TkRel w base (.slice AV ts.length cV) ts cols t ks v1 v32 wr) (fun v1 v32 _ => ks.length - iOf v32)
        case atStart =>
          refine ⟨0, rfl, Nat.zero_le _, ?_, PF3, fun k hk hl => ?_⟩
          · have : accT ts cols t ks 0 = ts ++ [putT cols t] := by simp [accT, flats]
            rw [this, List.length_append, List.flatMap_append]
            simp only [List.flatMap_cons, List.flatMap_nil, List.append_nil, HP.out]
            exact own3
          · rcases at3 with at3 | at3
            · rw [at3] at hk; exact hk
            · rw [at3] at hk; injection hk with hk; simp at hk; omega
        case round =>
          obtain ⟨i, rfl, hi, hown1, hpf, hoc⟩ := hrel
          have K1 := keepO_own hown hpf
          have hzz := hpf.size
          have hal := accT_len (ts := ts) (cols := cols) (t := t) (ks := ks) (i := i)
          clear own3 g3 at3 PF3 K3 hb3
          by_cases hlt : i < ks.length
          · obtain ⟨k, b, hki, hli, TK⟩ := kids_at ks l i hk hlt
            obtain ⟨-, g, hAU, hcb, hg⟩ := (hsl.keep ⟨by decide, by decide⟩ (fun _ h _ => h) K1.b).at1 hli
            have TK2 := TreeAt.keep ⟨by decide, by decide⟩ (fun _ h _ => h) K1.b k b TK
            have hm := flats_take hki
            have hln := congrArg List.length hm
            have hlt2 := flats_takes ks (i + 1)
            rw [List.length_append] at hln
            have hdk : k.depth ≤ f := by
              have h1 : k ∈ ks := List.mem_of_getElem? hki
              have h2 := deepest_mem h1
              simp only [X.depth] at hd
              omega
            have hmem : ∀ t' ∈ k.flat, t' ∈ t :: flats ks := fun t' ht' => List.mem_cons_of_mem _ (mem_flats (List.mem_of_getElem? hki) ht')
            have ihk := ih k b B wr _ (accT ts cols t ks i) hdk TK2 hown1 ((hcol.keep fun q hq => World.cell?_of_block (hpf.block _ (by omega) fun e0 => by have := (hown.lt _ e0).1; omega)).more (Nat.le_refl _)) (by omega) (fun t' ht' h2' => HR.out t' (hmem t' ht') h2') (by rw [hal]; simp only [List.length_cons] at hlen; omega)
            unfold TmPost ptrV at ihk
            have h1 : (i : Int) < (l.length : Int) := by omega
            have h0 : (0 : Int) ≤ (i : Int) := by omega
            have hiw : IntKind.i64.wrap ((i : Int) + 1) = (i : Int) + 1 := IntWalk.i64_in _ (by unfold maxLen at hUl; omega)
            have HS := Lib.hid (accT_succ (ts := ts) (cols := cols) (t := t) hki)
            injection hAU with hAU
            injection hAU with hAU _
            subst hAU
            clear hki hli TK TK2 hm hln hlt2 hdk hmem hal
            go_wp2_with (refine ihk.mono ?_; rintro e w5 ⟨v5, rfl, own5, F5, O5⟩)
            go_roundw
            case rel =>
              refine ⟨i + 1, by go_num, by omega, ?_, hpf.trans F5 (fun k' hk' hs => hoc k' hs hk'), fun k' hk' hl' => hoc k' (O5 k' hk' (by omega)) hl'⟩
              rw [HS.out, List.length_append]
              exact own5
            case measure => simp [iOf]; omega
          · obtain rfl : i = ks.length := by omega
            have h1 : ¬ (ks.length : Int) < (l.length : Int) := by omega
            clear hcol
            rw [hal, List.take_length] at hown1
            obtain ⟨A1, c1', rfl, -, -⟩ := own_slice hown1
            have hfin : wr.ownsRow base 40 5 (.slice A1 (ts.length + (1 + (flats ks).length)) c1') (ts.length + (putT cols t :: (flats ks).map (putT cols)).length) ((ts ++ putT cols t :: (flats ks).map (putT cols)).flatMap T.cells) := by
              have h3 : accT ts cols t ks ks.length = ts ++ putT cols t :: (flats ks).map (putT cols) := by simp [accT]
              have h4 : ts.length + (putT cols t :: (flats ks).map (putT cols)).length = ts.length + (1 + (flats ks).length) := by simp; omega
              rw [← h3, h4]
              exact hown1
            clear hal
            go_wp2_with fail
            go_ret
            unfold TmPost
            refine ⟨.slice A1 (ts.length + (1 + (flats ks).length)) c1', rfl, ?_, hpf, hoc⟩
            first | exact hfin | (rw [List.map_cons]; exact hfin)
    · by_cases h2 : t.op = 2
      · have t2 : (t.op == 2) = true := by simpa using h2
        obtain ⟨hc0, hcm⟩ := hr t (by simp) h2
        obtain ⟨q, hq⟩ := Int.eq_ofNat_of_zero_le hc0
        obtain ⟨b2, off2, z2, rfl, hb2, hz2, hcell⟩ := RowI.at1 hcol (show q < m by omega)
        have HP := Lib.hid (show putT cols t = ⟨t.op, t.v, z2⟩ by
          unfold putT
          rw [if_pos h2, List.getD_eq_getElem?_getD, hq, Int.toNat_natCast, hz2]
          rfl)
        rw [hq] at c4
        have q0 : (0 : Int) ≤ (q : Int) := by omega
        have q1 : (q : Int) < (m : Int) := by omega
        have hb2l : b2 < w.heap.size := by omega
        clear h2 hr hz2 hcm hc0 hq
        go_enter Tryz.func45, Tryz.ntmps45
        go_wp2_with (at_builtin; refine wpList_app (v := .slice AV ts.length cV) rfl _ _ stT' rfl rfl ((own_below hown ((Below.refl w.heap.size w).alloc (Nat.le_refl _) _))) rfl (by simp) rfl (by simp [Value.oneCell']) (by omega) (by simp; omega) ?_; intro v3 w3 own3 g3 at3; have PF3 := ((PFr.refl (fun k => (Value.slice AV ts.length cV).ownBlock = some k) w).alloc _).grown g3 (fun k hk _ => hk); have K3 := keepO_own hown PF3; have hb3 := (K3 _ _ _ hblk (by decide)).trans hblk; obtain ⟨hcc, -⟩ := blk_cells hb3; have e5 := hcc 5; clear hcc; unfold nodeC at e5)
        go_loopw [1, 32] (fun v1 v32 wr => TkRel w base (.slice AV ts.length cV) ts cols t ks v1 v32 wr) (fun v1 v32 _ => ks.length - iOf v32)
        case atStart =>
          refine ⟨0, rfl, Nat.zero_le _, ?_, PF3, fun k hk hl => ?_⟩
          · have : accT ts cols t ks 0 = ts ++ [putT cols t] := by simp [accT, flats]
            rw [this, List.length_append, List.flatMap_append]
            simp only [List.flatMap_cons, List.flatMap_nil, List.append_nil, HP.out]
            exact own3
          · rcases at3 with at3 | at3
            · rw [at3] at hk; exact hk
            · rw [at3] at hk; injection hk with hk; simp at hk; omega
        case round =>
          obtain ⟨i, rfl, hi, hown1, hpf, hoc⟩ := hrel
          have K1 := keepO_own hown hpf
          have hzz := hpf.size
          have hal := accT_len (ts := ts) (cols := cols) (t := t) (ks := ks) (i := i)
          clear own3 g3 at3 PF3 K3 hb3
          by_cases hlt : i < ks.length
          · rw [← hkl, hl0] at hlt; simp at hlt
          · obtain rfl : i = ks.length := by omega
            have h1 : ¬ (ks.length : Int) < (l.length : Int) := by omega
            clear hcol
            rw [hal, List.take_length] at hown1
            obtain ⟨A1, c1', rfl, -, -⟩ := own_slice hown1
            have hfin : wr.ownsRow base 40 5 (.slice A1 (ts.length + (1 + (flats ks).length)) c1') (ts.length + (putT cols t :: (flats ks).map (putT cols)).length) ((ts ++ putT cols t :: (flats ks).map (putT cols)).flatMap T.cells) := by
              have h3 : accT ts cols t ks ks.length = ts ++ putT cols t :: (flats ks).map (putT cols) := by simp [accT]
              have h4 : ts.length + (putT cols t :: (flats ks).map (putT cols)).length = ts.length + (1 + (flats ks).length) := by simp; omega
              rw [← h3, h4]
              exact hown1
            clear hal
            go_wp2_with fail
            go_ret
            unfold TmPost
            refine ⟨.slice A1 (ts.length + (1 + (flats ks).length)) c1', rfl, ?_, hpf, hoc⟩
            first | exact hfin | (rw [List.map_cons]; exact hfin)
      · have t2 : (t.op == 2) = false := by simpa using h2
        have HP := Lib.hid (show putT cols t = t by unfold putT; rw [if_neg h2])
        clear h2 hr
        go_enter Tryz.func45, Tryz.ntmps45
        go_wp2_with (at_builtin; refine wpList_app (v := .slice AV ts.length cV) rfl _ _ stT' rfl rfl ((own_below hown ((Below.refl w.heap.size w).alloc (Nat.le_refl _) _))) rfl (by simp) rfl (by simp [Value.oneCell']) (by omega) (by simp; omega) ?_; intro v3 w3 own3 g3 at3; have PF3 := ((PFr.refl (fun k => (Value.slice AV ts.length cV).ownBlock = some k) w).alloc _).grown g3 (fun k hk _ => hk); have K3 := keepO_own hown PF3; have hb3 := (K3 _ _ _ hblk (by decide)).trans hblk; obtain ⟨hcc, -⟩ := blk_cells hb3; have e5 := hcc 5; clear hcc; unfold nodeC at e5)
        go_loopw [1, 32] (fun v1 v32 wr => TkRel w base (.slice AV ts.length cV) ts cols t ks v1 v32 wr) (fun v1 v32 _ => ks.length - iOf v32)
        case atStart =>
          refine ⟨0, rfl, Nat.zero_le _, ?_, PF3, fun k hk hl => ?_⟩
          · have : accT ts cols t ks 0 = ts ++ [putT cols t] := by simp [accT, flats]
            rw [this, List.length_append, List.flatMap_append]
            simp only [List.flatMap_cons, List.flatMap_nil, List.append_nil, HP.out]
            exact own3
          · rcases at3 with at3 | at3
            · rw [at3] at hk; exact hk
            · rw [at3] at hk; injection hk with hk; simp at hk; omega
        case round =>
          obtain ⟨i, rfl, hi, hown1, hpf, hoc⟩ := hrel
          have K1 := keepO_own hown hpf
          have hzz := hpf.size
          have hal := accT_len (ts := ts) (cols := cols) (t := t) (ks := ks) (i := i)
          clear own3 g3 at3 PF3 K3 hb3
          by_cases hlt : i < ks.length
          · rw [← hkl, hl0] at hlt; simp at hlt
          · obtain rfl : i = ks.length := by omega
            have h1 : ¬ (ks.length : Int) < (l.length : Int) := by omega
            clear hcol
            rw [hal, List.take_length] at hown1
            obtain ⟨A1, c1', rfl, -, -⟩ := own_slice hown1
            have hfin : wr.ownsRow base 40 5 (.slice A1 (ts.length + (1 + (flats ks).length)) c1') (ts.length + (putT cols t :: (flats ks).map (putT cols)).length) ((ts ++ putT cols t :: (flats ks).map (putT cols)).flatMap T.cells) := by
              have h3 : accT ts cols t ks ks.length = ts ++ putT cols t :: (flats ks).map (putT cols) := by simp [accT]
              have h4 : ts.length + (putT cols t :: (flats ks).map (putT cols)).length = ts.length + (1 + (flats ks).length) := by simp; omega
              rw [← h3, h4]
              exact hown1
            clear hal
            go_wp2_with fail
            go_ret
            unfold TmPost
            refine ⟨.slice A1 (ts.length + (1 + (flats ks).length)) c1', rfl, ?_, hpf, hoc⟩
            first | exact hfin | (rw [List.map_cons]; exact hfin)
end Go.Proofs.YtpnfbehbheddeaaGreatDoor
