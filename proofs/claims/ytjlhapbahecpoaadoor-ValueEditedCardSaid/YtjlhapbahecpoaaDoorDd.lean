/- Contract of the program's DecodeRow: strings of at most a hundred thousand bytes. -/
import Derived.Test.YtjlhapbahecpoaaDoorDc
namespace Go.Proofs.YtjlhapbahecpoaaDoor
open Go.RowKit

/-- A row of values of the call's own. -/
def OwnV (w : World) (base : Nat) (o : Value) (vs : List V) : Prop := w.ownsRow base 23 3 o vs.length (vs.flatMap V.cells)
theorem OwnV.nil_ (w : World) (base : Nat) : OwnV w base (.slice none 0 0) [] := World.ownsRow_nil _ _ _ _
theorem OwnV.below {w w' : World} {base : Nat} {o : Value} {vs : List V} (h : OwnV w base o vs) (hb : Below w.heap.size w w') : OwnV w' base o vs := own_below h hb
theorem OwnV.alloc {w : World} {base : Nat} {o : Value} {vs : List V} (h : OwnV w base o vs) (x : Obj) : OwnV (w.alloc x) base o vs := World.ownsRow.alloc h x
theorem OwnV.more {w : World} {base : Nat} {o : Value} {vs : List V} {v : V} (h : w.ownsRow base 23 3 o (vs.length + 1) (vs.flatMap V.cells ++ #[.int .i64 v.k, .int .i64 v.n, .string v.s].toList)) : OwnV w base o (vs ++ [v]) := by
  unfold OwnV
  simpa [V.cells] using h
theorem OwnV.row {w : World} {base n c : Nat} {A : Option Addr} {vs : List V} (h : OwnV w base (.slice A n c) vs) : Row w w.heap.size A n vs := by
  obtain ⟨A', c', e, _, _⟩ := own_slice h
  injection e with e1 e2 e3
  subst e1 e2 e3
  exact RowOf.of_own h rfl
def DRowPost (w : World) (x : List V × Int) (e : Ending) (w' : World) : Prop := ∃ o, e = .returned (.tuple #[o, .int .i64 x.2]) ∧ OwnV w' w.heap.size o x.1 ∧ Below w.heap.size w w'
def strLen : Value → Nat | .string s => s.size | _ => 0
def DRel (w : World) (l : List UInt8) (s r : Value) (wr : World) : Prop := ∃ (st : ByteArray) (acc : List V), s = .string st ∧ st.size ≤ 100000 ∧ OwnV wr w.heap.size r acc ∧ acc.length ≤ 16 ∧ Below w.heap.size w wr ∧ decRow l [] = decRow st.data.toList acc
theorem drop_size (s : ByteArray) (n : Nat) : (s.extract n s.size).data.toList = s.data.toList.drop n := by
  rw [Lib.extract_data, List.take_of_length_le]
  rw [List.length_drop, ← Lib.size_eq]
  omega

set_option maxRecDepth 100000 in
set_option maxHeartbeats 1000000 in
theorem vdecodeRow (s : ByteArray) (w : World) (hs : s.size ≤ 100000) : Calls Tryd.prog 35 #[.string s] w (DRowPost w (decRow s.data.toList [])) := by
  have hmf : ∀ (fn : Fn) (first cap : Array Value) (w : World), (Instr.makeFunc fn first cap).run Tryd.prog w = .ok (.func fn first cap) w := fun _ _ _ _ => rfl
  obtain ⟨X, hX⟩ : ∃ X, decRow s.data.toList [] = X := ⟨_, rfl⟩
  have HX := Lib.hid hX
  rw [hX]
  clear hX
  go_enter_defers Tryd.func35, Tryd.ntmps35
  go_wp2_with fail
  go_loopw [0, 4] (fun s' r wr => DRel w s.data.toList s' r wr) (fun s' _ _ => strLen s')
  case atStart => exact ⟨s, [], rfl, hs, OwnV.nil_ _ _, by simp, Below.refl _ _, rfl⟩
  case round =>
    obtain ⟨st, acc, rfl, hst, hown, hacc, hbel, hrow⟩ := hrel
    have hzz := hbel.size
    have HR := Lib.hid (HX.out.symm.trans hrow)
    clear hrow
    have hown0 := hown
    obtain ⟨A4, c4, rfl, _, _⟩ := own_slice hown0
    have HO := Lib.hid hown
    clear hown0 hown
    by_cases h0 : st.size = 0
    · have h1 : ¬ (0 : Int) < (st.size : Int) := by omega
      have hnil : st.data.toList = [] := List.eq_nil_of_length_eq_zero (by rw [← Lib.size_eq]; exact h0)
      have HN := Lib.hid (by have := HR.out; rw [hnil, decRow_nil] at this; exact this)
      clear hnil h0
      go_wp2_with fail
      refine leave_idle idle_DecodeRow (by simp [go_sem]) (by simp [results, Tryd.results35, go_sem]; rfl) ?_
      rw [HN.out]
      exact ⟨_, rfl, HO.out, hbel⟩
    · have h1 : (0 : Int) < (st.size : Int) := by omega
      have hne : st.data.toList ≠ [] := fun h => h0 (by rw [Lib.size_eq, h]; rfl)
      have HE := Lib.hid hne
      have hdl := dcV_le st.data.toList
      rw [← Lib.size_eq] at hdl
      have HS := Lib.hid (fun h1 h2 => decRow_step (l := st.data.toList) hne h1 (acc := acc) h2)
      have HB := Lib.hid (fun h1 => decRow_bad (l := st.data.toList) hne h1 acc)
      have HF := Lib.hid (fun h1 => decRow_full (l := st.data.toList) hne (acc := acc) h1)
      have hD := decodeValue_c st
      obtain ⟨x, hx⟩ : ∃ x, dcV st.data.toList = x := ⟨_, rfl⟩
      rw [hx] at hdl HS HB hD
      clear hne hx
      obtain ⟨v, n⟩ := x
      simp only at hdl
      by_cases q0 : n = 0
      · have t0 : ((n : Int) == 0) = true := by simpa using q0
        have Q0 := Lib.hid q0
        clear q0
        go_wp2_with (go_at_call 52; refine (hD _ hst (by omega)).mono ?_; rintro e w1 ⟨rfl, hb1⟩; obtain ⟨hc1, hf1⟩ := bcell hb1; have hz1 := (hb1).size; try simp at hz1)
        refine leave_idle idle_DecodeRow (by simp [go_sem]) (by simp [results, Tryd.results35, go_sem]; rfl) ?_
        rw [HR.out, HB.out Q0.out]
        exact ⟨_, rfl, OwnV.nil_ _ _, by (repeat (first | (with_reducible exact Below.refl _ _) | (with_reducible assumption) | (with_reducible refine Below.drew ?_) | (with_reducible refine below_drewN ?_ _) | ((with_reducible refine Below.setCell ?_ ?_ _); rotate_left; (focus (first | (simp; done) | (simp; omega) | omega))) | ((with_reducible refine Below.alloc ?_ ?_ _); rotate_left; (focus (first | (simp; done) | (simp; omega) | omega))) | ((with_reducible apply below_step1); (focus (with_reducible assumption)))))⟩
      · have t0 : ((n : Int) == 0) = false := by simpa using q0
        have Q0 := Lib.hid q0
        clear q0
        by_cases q1 : acc.length = 16
        · have t1 : ((acc.length : Int) == 16) = true := by simp; omega
          have Q1 := Lib.hid q1
          clear q1
          go_wp2_with (go_at_call 52; refine (hD _ hst (by omega)).mono ?_; rintro e w1 ⟨rfl, hb1⟩; obtain ⟨hc1, hf1⟩ := bcell hb1; have hz1 := (hb1).size; try simp at hz1)
          refine leave_idle idle_DecodeRow (by simp [go_sem]) (by simp [results, Tryd.results35, go_sem]; rfl) ?_
          rw [HR.out, HF.out Q1.out]
          exact ⟨_, rfl, OwnV.nil_ _ _, by (repeat (first | (with_reducible exact Below.refl _ _) | (with_reducible assumption) | (with_reducible refine Below.drew ?_) | (with_reducible refine below_drewN ?_ _) | ((with_reducible refine Below.setCell ?_ ?_ _); rotate_left; (focus (first | (simp; done) | (simp; omega) | omega))) | ((with_reducible refine Below.alloc ?_ ?_ _); rotate_left; (focus (first | (simp; done) | (simp; omega) | omega))) | ((with_reducible apply below_step1); (focus (with_reducible assumption)))))⟩
        · have t1 : ((acc.length : Int) == 16) = false := by simp; omega
          have Q1 := Lib.hid q1
          clear q1
          have hn0 : (0 : Int) ≤ (n : Int) := by omega
          have hn1 : (n : Int) ≤ (st.size : Int) := by omega
          go_wp2_with (first
            | (go_at_call 52; refine (hD _ hst (by omega)).mono ?_; rintro e w1 ⟨rfl, hb1⟩; obtain ⟨hc1, hf1⟩ := bcell hb1; have hz1 := (hb1).size; (try simp at hz1); have own1 := (HO.out.below hb1).alloc (.cells #[.int .i64 v.k, .int .i64 v.n, .string v.s] 23))
            | (at_builtin; refine wpList_app (v := (.slice A4 acc.length c4)) rfl _ _ stV rfl rfl (own1) rfl (by simp) rfl (by simp [Value.oneCell']) (by omega) (by simp; omega) ?_; intro v' w2 hown' hg' hat'))
          have hsz : (st.extract n st.size).size = st.size - n := by rw [Lib.size_eq, drop_size, List.length_drop, ← Lib.size_eq]
          have hbel1 : Below w.heap.size w (w1.alloc (.cells #[.int .i64 v.k, .int .i64 v.n, .string v.s] 23)) := by (repeat (first | (with_reducible exact Below.refl _ _) | (with_reducible assumption) | (with_reducible refine Below.drew ?_) | (with_reducible refine below_drewN ?_ _) | ((with_reducible refine Below.setCell ?_ ?_ _); rotate_left; (focus (first | (simp; done) | (simp; omega) | omega))) | ((with_reducible refine Below.alloc ?_ ?_ _); rotate_left; (focus (first | (simp; done) | (simp; omega) | omega))) | ((with_reducible apply below_step1); (focus (with_reducible assumption)))))
          have hq := Q0.out
          have hq1 := Q1.out
          refine ⟨⟨_, acc ++ [v], rfl, by omega, OwnV.more hown', by simp; omega, below_app hbel1 own1 hg' (Nat.le_refl _) (by simp; omega), ?_⟩, ?_⟩
          · rw [drop_size, ← HS.out Q0.out Q1.out, ← HR.out, HX.out]
          · show (st.extract n st.size).size < st.size
            omega
end Go.Proofs.YtjlhapbahecpoaaDoor
