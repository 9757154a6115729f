/- Contracts of EncodeRow, of the program and of the reference: rows of at most a thousand values. -/
import Derived.Test.YtjlhapbahecpoaaDoorVj
import Derived.Test.YtjlhapbahecpoaaDoorVb
import Derived.Test.YtjlhapbahecpoaaDoorVSpec2
namespace Go.Proofs.YtjlhapbahecpoaaDoor
open Go.RowKit

def encRow (vs : List V) : List UInt8 := vs.flatMap fun v => encV v.cl
theorem cl_lim (v : V) : -4294967296 ≤ v.cl.n ∧ v.cl.n ≤ 4294967296 ∧ v.cl.s.size ≤ 32 := by
  have h := V.ok_cases v.cl_ok
  rw [Lib.size_eq]
  rcases h with ⟨_, h2, h3⟩ | ⟨_, h2, h2', h3⟩ | ⟨_, h2, h3⟩
  · rw [h3]; simp; omega
  · rw [h3]; simp; omega
  · omega
theorem encV_len (v : V) : (encV v.cl).length ≤ 70 := by
  have h := (cl_lim v).2.2
  rw [Lib.size_eq] at h
  unfold encV
  split
  · simp [encI]
  · split
    · have := encT_flat v.cl.s.data.toList
      simp only [List.length_append, List.length_cons, List.length_nil]
      omega
    · simp
theorem encRow_len : ∀ vs : List V, (encRow vs).length ≤ 70 * vs.length := by
  intro vs
  induction vs with
  | nil => simp [encRow]
  | cons v vs ih =>
    have := encV_len v
    simp only [encRow, List.flatMap_cons, List.length_append, List.length_cons] at *
    omega
theorem encRow_take {vs : List V} {k : Nat} {v : V} (h : vs[k]? = some v) : encRow (vs.take (k + 1)) = encRow (vs.take k) ++ encV v.cl := by
  unfold encRow
  rw [List.take_add_one, h]; simp
theorem OwnB.str {w : World} {base : Nat} {o : Value} {l : List UInt8} (h : OwnB w base o l) : (convert 61 9 o).run Tryd.prog w = .ok (.string ⟨l.toArray⟩) w := run_toStr h

set_option maxRecDepth 100000 in
set_option maxHeartbeats 1000000 in
theorem vencodeRow (A : Option Addr) (n c : Nat) (vs : List V) (w : World) (hn : n ≤ 1000) (hr : Row w w.heap.size A n vs) :
    Calls Tryd.prog 33 #[.slice A n c] w fun e w' => e = .returned (.string ⟨(encRow vs).toArray⟩) ∧ Below w.heap.size w w' := by
  have HL := Lib.hid hr.len
  go_enter Tryd.func33, Tryd.ntmps33
  go_wp2
  go_loopw [3, 8] (fun u i wr => ∃ k : Nat, k ≤ n ∧ i = .int .i64 k ∧ OwnB wr w.heap.size u (encRow (vs.take k)) ∧ Below w.heap.size w wr) (fun _ i _ => n - (intOf i).toNat)
  case atStart => exact ⟨0, Nat.zero_le _, rfl, OwnB.nil_ _ _, Below.refl _ _⟩
  case round =>
    obtain ⟨k, hk, rfl, hown, hbel⟩ := hrel
    have hzz := hbel.size
    have hlen := encRow_len (vs.take k)
    have hlt2 : (vs.take k).length ≤ k := List.length_take_le _ _
    generalize hN : encRow (vs.take k) = N at hown hlen
    have HN := Lib.hid hN
    have hL : N.length ≤ 100000 := by omega
    clear hN hlen hlt2
    by_cases hlt : k < n
    · obtain ⟨b, off, v, rfl, hb, hv, hc0, hc1, hc2⟩ := Row.at3 (hr.below hbel) hlt
      have HV := Lib.hid hv
      clear hv
      obtain ⟨l1, l2, l3⟩ := cl_lim v
      go_wp2_with (first
        | (go_at_call 20; refine (vclean v _).mono ?_; rintro e w1 ⟨rfl, hb1⟩; have hz1 := hb1.size; (try simp at hz1); have own1 := (hown.alloc _).below hb1)
        | (go_at_call 50; refine (appendValue_c u3 w.heap.size N v.cl _ own1 (by omega) (by omega) (by omega) l1 l2).mono ?_; rintro e w2 ⟨o', rfl, own2, hg2, _⟩))
      have hbel2 : Below w.heap.size w w2 := below_app (below_step hb1 (hbel.alloc (by omega) _) (Nat.le_refl _)) own1 hg2 (Nat.le_refl _) (by omega)
      go_roundw
      case rel => exact ⟨k + 1, by omega, by go_num, by rw [encRow_take HV.out, HN.out]; exact own2, hbel2⟩
      case measure => simp [intOf]; omega
    · have hts := hown.str
      go_wp2
      go_ret
      refine ⟨?_, hbel⟩
      rw [← HN.out, List.take_of_length_le (by rw [HL.out]; omega)]
      rfl
end Go.Proofs.YtjlhapbahecpoaaDoor
