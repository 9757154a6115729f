/- Contracts of the tape's Typed and TypedRow: values of the types, or null. -/
import Derived.Test.YtojcabnjodfdmaaDoorTo
import Derived.Test.YtojcabnjodfdmaaDoorBa
namespace Go.Proofs.YtojcabnjodfdmaaDoor
open Go.RowKit

def TvPost (w : World) (b g : Nat) (k : Int) (e : Ending) (w' : World) : Prop :=
  ∃ v : V, e = .returned (.agg #[.int .i64 v.k, .int .i64 v.n, .string v.s]) ∧ v.ok = true ∧ hasT v k ∧ Tp w' b g ∧ w.grownBy w' (some b)
set_option maxRecDepth 100000 in
set_option maxHeartbeats 1000000 in
theorem ttypedV (b g : Nat) (k : Int) (w : World) (hk : k = 1 ∨ k = 2) (h : Tp w b g) : Calls Tryd.prog 60 #[.pointer (some ⟨b, 0, none⟩), .int .i64 k] w (TvPost w b g k) := by
  have HT := Lib.hid h
  have hlt := h.lt
  have hltg := h.ltg
  go_enter Tryd.func60, Tryd.ntmps60
  go_wp2_with fail
  refine (next_c b g 6 _ (by omega) (HT.out.alloc _)).mono ?_
  rintro e w1 ⟨r, rfl, hr, ht1, hg1, hz1⟩
  have q0 := (hg1.block w.heap.size (by simp) (by simp; omega)).trans (heap_alloc_new _ _)
  obtain ⟨c0, f0⟩ := blk_rules q0
  have c00 := c0 0
  have c01 := c0 1
  have c02 := c0 2
  have f00 := f0 0
  have f01 := f0 1
  have f02 := f0 2
  have hz : w.heap.size < w1.heap.size := by rw [hz1]; simp
  clear c0 f0 q0 hz1
  have fin : ∀ (v : V) (w2 : World), v.ok = true → Tp w2 b g → w1.grownBy w2 (some b) → Tp (((w2.setCell ⟨w.heap.size, 0, none⟩ (.int .i64 v.k)).setCell ⟨w.heap.size, 1, none⟩ (.int .i64 v.n)).setCell ⟨w.heap.size, 2, none⟩ (.string v.s)) b g ∧ w.grownBy (((w2.setCell ⟨w.heap.size, 0, none⟩ (.int .i64 v.k)).setCell ⟨w.heap.size, 1, none⟩ (.int .i64 v.n)).setCell ⟨w.heap.size, 2, none⟩ (.string v.s)) (some b) := by
    intro v w2 _ ht2 hg2
    exact ⟨by (repeat (first | (with_reducible assumption) | (with_reducible refine Tp.drew ?_) | (with_reducible refine Tp.drewN ?_ _) | (with_reducible refine Tp.alloc ?_ _) | ((with_reducible refine Tp.setFar ?_ ?_ ?_ _); rotate_left; (focus (first | (simp; done) | (simp; omega) | omega)); (focus (first | (simp; done) | (simp; omega) | omega))) | ((with_reducible apply Tp.step); (focus (with_reducible assumption))))), by (repeat (first | (with_reducible exact grown_refl _ _) | (with_reducible assumption) | (with_reducible refine only_drew ?_) | (with_reducible refine only_drewN ?_ _) | ((with_reducible refine only_setCell ?_ ?_ _); rotate_left; (focus (first | (simp; done) | (simp; omega) | omega | (right; simp; done) | (right; simp; omega) | (right; omega)))) | (with_reducible refine only_alloc ?_ _) | ((with_reducible apply only_step); (focus (with_reducible assumption))) | ((with_reducible apply only_trans); (focus (with_reducible assumption)))))⟩
  have FIN := Lib.hid fin
  clear fin
  by_cases d0 : r = 0
  · have t0 : ((r : Int) == 0) = true := by simpa using d0
    clear d0
    go_wp2_with fail
    refine bodyPost_ret (by simp [results, Tryd.results60, go_sem, c00, c01, c02]; rfl) rfl ?_
    obtain ⟨h1, h2⟩ := FIN.out V.null w1 V.null_ok ht1 (grown_refl _ _)
    exact ⟨V.null, rfl, V.null_ok, null_T _, h1, h2⟩
  have t0 : ((r : Int) == 0) = false := by simpa using d0
  clear d0
  rcases hk with rfl | rfl
  · go_wp2_with (go_at_call 58; refine (tintK b g _ ht1).mono ?_; rintro e w2 ⟨v, rfl, hv, hk, ht2, hg2⟩; have HK := Lib.hid hk; clear hk; have hB := (fun i => (World.cell?_of_block (a := ⟨w.heap.size, i, none⟩) (hg2.block w.heap.size hz (by simp; omega)))); have hF : ∀ i, w2.frozen? ⟨w.heap.size, i, none⟩ = w1.frozen? ⟨w.heap.size, i, none⟩ := (fun i => by simp only [World.frozen?, hg2.block w.heap.size hz (by simp; omega)]))
    refine bodyPost_ret (by simp [results, Tryd.results60, go_sem, hB, c00, c01, c02]; rfl) rfl ?_
    obtain ⟨h1, h2⟩ := FIN.out v w2 hv ht2 hg2
    exact ⟨v, rfl, hv, .inr HK.out, h1, h2⟩
  · go_wp2_with (go_at_call 59; refine (ttextK b g _ ht1).mono ?_; rintro e w2 ⟨v, rfl, hv, hk, ht2, hg2⟩; have HK := Lib.hid hk; clear hk; have hB := (fun i => (World.cell?_of_block (a := ⟨w.heap.size, i, none⟩) (hg2.block w.heap.size hz (by simp; omega)))); have hF : ∀ i, w2.frozen? ⟨w.heap.size, i, none⟩ = w1.frozen? ⟨w.heap.size, i, none⟩ := (fun i => by simp only [World.frozen?, hg2.block w.heap.size hz (by simp; omega)]))
    refine bodyPost_ret (by simp [results, Tryd.results60, go_sem, hB, c00, c01, c02]; rfl) rfl ?_
    obtain ⟨h1, h2⟩ := FIN.out v w2 hv ht2 hg2
    exact ⟨v, rfl, hv, .inr HK.out, h1, h2⟩
def TrPost (w : World) (b g : Nat) (types : List Int) (e : Ending) (w' : World) : Prop :=
  ∃ (A : Option Addr) (c : Nat) (vs : List V), e = .returned (.slice A vs.length c) ∧ w'.ownsRow w.heap.size 34 3 (.slice A vs.length c) vs.length (vs.flatMap V.cells) ∧ vs.length = types.length ∧ rowT types vs ∧ Tp w' b g ∧ w.grownBy w' (some b)
set_option maxRecDepth 100000 in
set_option maxHeartbeats 1000000 in
theorem ttypedRow (b g m c : Nat) (R : Option Addr) (types : List Int) (w : World) (hm2 : m ≤ 1000) (hT : ∀ z ∈ types, z = 1 ∨ z = 2) (h : Tp w b g) (hK : RowK w b R m types) : Calls Tryd.prog 38 #[.pointer (some ⟨b, 0, none⟩), .slice R m c] w (TrPost w b g types) := by
  have hlt := h.lt
  have hltg := h.ltg
  have HLN := Lib.hid hK.now.len
  go_enter Tryd.func38, Tryd.ntmps38
  go_wp2_with fail
  go_loopw [5, 6] (fun v5 v6 wr => ∃ (i : Nat) (vs : List V), v6 = .int .i64 (i : Int) ∧ vs.length = i ∧ i ≤ m ∧ Hid (rowT types vs) ∧ wr.ownsRow w.heap.size 34 3 v5 vs.length (vs.flatMap V.cells) ∧ Tp wr b g ∧ w.grownBy wr (some b)) (fun _ v6 _ => m - (intOf v6).toNat)
  case atStart => exact ⟨0, [], rfl, rfl, by omega, (fun i v k h1 => by simp at h1), World.ownsRow_nil _ _ _ _, h, grown_refl _ _⟩
  case round =>
    obtain ⟨i, vs, rfl, hvi, hi, HR, hown, htr, hgr⟩ := hrel
    have HVI := Lib.hid hvi
    clear hvi
    have hzr := hgr.size
    by_cases hlt2 : i < m
    · have h1 : (i : Int) < (m : Int) := by omega
      have h0 : (0 : Int) ≤ (i : Int) := by omega
      have hiw : IntKind.i64.wrap ((i : Int) + 1) = (i : Int) + 1 := IntWalk.i64_in _ (by omega)
      obtain ⟨rb, roff, z, rfl, hrb, hz, hcell⟩ := RowI.at1 ((hK.to hgr).now) hlt2
      have hz12 := hT z (List.mem_of_getElem? hz)
      have HZ := Lib.hid hz
      clear hz
      have hvs : vs.length ≤ 1000 := by have := HVI.out; omega
      have hv3 := ttypedV b g z wr hz12 htr
      clear hz12
      go_wp2_with (first
        | (go_at_call 60; refine hv3.mono ?_; rintro e w2 ⟨v, rfl, hv, hvT, ht2, hg2⟩; have hz2 := hg2.size; have own2 := own_tape hown hg2 hlt; have HV := Lib.hid hvT; clear hv hvT)
        | (at_builtin; refine wpList_app (v := u5) rfl _ _ stV rfl rfl (own2) rfl (by simp) rfl (by simp [Value.oneCell']) (by omega) (by omega) ?_; intro v' w3 own3 hg3 hat3))
      have ht3 := Tp.own ht2 own2 hg3 hlt hltg
      have hg3' := grown_own (grown_trans hgr hg2) own2 hg3
      go_roundw
      case rel =>
        refine ⟨i + 1, vs ++ [v], by go_num, by simp [HVI.out], by omega, ?_, ?_, ht3, hg3'⟩
        · show rowT types (vs ++ [v])
          intro j u k hj hk
          rcases Nat.lt_or_ge j vs.length with hl | hl
          · rw [List.getElem?_append_left hl] at hj
            exact HR.out j u k hj hk
          · have hje : j = vs.length := by
              have := (List.getElem?_eq_some_iff.1 hj).1
              simp at this
              omega
            subst hje
            simp at hj
            subst hj
            rw [HVI.out, HZ.out] at hk
            injection hk with hk
            subst hk
            exact HV.out
        · rw [List.length_append, List.flatMap_append]
          exact own3
      case measure => simp [intOf]; omega
    · have h1 : ¬ (i : Int) < (m : Int) := by omega
      obtain ⟨A8, c8, rfl, _, _⟩ := own_slice hown
      go_wp2_with fail
      go_ret
      exact ⟨A8, c8, vs, rfl, hown, by have := HVI.out; have := HLN.out; omega, HR.out, htr, hgr⟩
end Go.Proofs.YtojcabnjodfdmaaDoor
