/- Contract of whole: the parser of expressions is the mirror. The numbers of the tokens are from 0 to 2^32, at most 100000 tokens. Contracts of the program's small operators: truth values, and, or, numbers, the operators that can have a value although an operand is null. No condition. -/
import Derived.Test.YtpnfbehbheddeaaGreatDoorBn11
import Derived.Test.YtpnfbehbheddeaaGreatDoorBn02
import Derived.Laws.StructEq
import Derived.Deep.DeepCutAuto
import Derived.Deep.RegionWith
import Derived.Deep.Light
namespace Go.Proofs.YtpnfbehbheddeaaGreatDoor
set_option maxRecDepth 100000
set_option maxHeartbeats 8000000
set_option linter.unusedVariables false
set_option linter.unusedSimpArgs false
open Go.RowKit
structure Levels (p : Pp) (f : Nat) : Prop where
  l0 : OpC p 281 0 f
  l1 : OpC p 267 1 f
  l2 : OpC p 239 2 f
  l3 : OpC p 188 3 f
  l4 : OpC p 133 4 f
  l5 : OpC p 86 5 f
  l6 : OpC p 43 6 f
theorem opC_zero (p : Pp) (k : FuncId) (lv : Nat) : OpC p k lv 0 := fun w s rv h hm hf => by omega
theorem levels {p : Pp} (hN : p.e.okN) : ∀ F, Levels p F := by
  intro F
  induction F using Nat.strongRecOn with
  | _ F ih =>
    cases F with
    | zero => exact ⟨opC_zero _ _ _, opC_zero _ _ _, opC_zero _ _ _, opC_zero _ _ _, opC_zero _ _ _, opC_zero _ _ _, opC_zero _ _ _⟩
    | succ F =>
      have h := fun f (hf : f ≤ F) => ih f (by omega)
      exact ⟨atom_c hN F fun f hf => (h f hf).l6, factor_c hN F (h F (Nat.le_refl _)).l1 (h F (Nat.le_refl _)).l0, pProduct_c F fun f hf => (h f hf).l1, sum_c F fun f hf => (h f hf).l2, comparison_c F (h F (Nat.le_refl _)).l3, conjunction_c F fun f hf => (h f hf).l4, expression_c F fun f hf => (h f hf).l5⟩
theorem keepO_far {w w' : World} {z : Nat} {cs : Array Value} {te : TypeId} (hz : w.heap[z]? = some (.cells cs te (0, 0))) (hf : PFr (· = z) w w') : KeepO [te] w w' := fun k cs' te' hk ht => hf.block k (heap_lt hk) (by
  rintro rfl
  rw [hz] at hk
  injection hk with hk
  injection hk with _ hk
  subst hk
  exact ht (List.mem_singleton.2 rfl))
def WhPost (p : Pp) (w : World) (x : Xr) (s' : Ps) (e : Ending) (w' : World) : Prop :=
  ∃ r a rv', x = ⟨some r, s'.refs⟩ ∧ e = .returned (.agg #[ptrV a, rv']) ∧ PsAt p w' s' rv' ∧ TreeAt (From w.heap.size) w' r a ∧ PFr (· = p.pb) w w' ∧ (∀ k, rv'.ownBlock = some k → w.heap.size ≤ k)
theorem whole_c {p : Pp} (hN : p.e.okN) {w : World} {s : Ps} {rv : Value} (h : PsAt p w s rv) : Calls Tryz.prog 19 #[.pointer (some ⟨p.pb, 0, none⟩)] w (WhPost p w (wholeP p.e s).1 (wholeP p.e s).2) := by
  have hL := fun w1 rv1 (P : PsAt p w1 { s with refs := [] } rv1) => (levels hN p.e.fuel).l6 w1 { s with refs := [] } rv1 P (by have := h.few; simp only [Src.meas, List.length_nil]; omega) (by unfold Src.fuel; omega)
  unfold wholeP
  simp only
  generalize parseP p.e p.e.fuel 6 { s with refs := [] } = q at hL ⊢
  obtain ⟨x, s1⟩ := q
  unfold NodePost ptrV at hL
  simp only at hL ⊢
  obtain ⟨⟨-, -, -, -, -, c5⟩, ⟨-, -, -, -, -, f5⟩⟩ := h.cells
  have hlt := h.lt
  have P1 : PsAt p (w.setCell ⟨p.pb, 5, none⟩ (.slice none 0 0)) { s with refs := [] } (.slice none 0 0) := by
    have hkeep : ∀ k, k ≠ p.pb → (w.setCell ⟨p.pb, 5, none⟩ (.slice none 0 0)).heap[k]? = w.heap[k]? := fun k hk => Below.heap_setCell w ⟨p.pb, 5, none⟩ _ k hk
    refine ⟨?_, h.toks.keep fun q hq => World.cell?_of_block (hkeep _ (by omega)), h.ok, h.few, World.ownsRow_nil _ _ _ _⟩
    rw [heap_set h.blk, psC_refs (s := s) (.slice none 0 0) { s with refs := [] } rfl rfl rfl]
  have F1 : PFr (· = p.pb) w (w.setCell ⟨p.pb, 5, none⟩ (.slice none 0 0)) := by (exact pfrQ)
  have z1 : (w.setCell ⟨p.pb, 5, none⟩ (.slice none 0 0)).heap.size = w.heap.size := by simp [World.setCell]
  obtain ⟨z, w0, ez, ew, P0, F0, hz, hge, hgt, hlz⟩ := alloc_ex P1 (· = p.pb) #[.pointer none, .slice none 0 0] 72
  rw [z1] at ez hge
  have F01 : PFr (· = p.pb) w w0 := F1.trans F0 fun _ _ x => x
  have hx := hL _ _ P0
  have fin : ∀ w2 rv2, St p w0 (.slice none 0 0) w2 s1 rv2 → PFr (· = p.pb) w w2 ∧ (∀ k, rv2.ownBlock = some k → w.heap.size ≤ k) ∧ w2.heap[z]? = some (.cells #[.pointer none, .slice none 0 0] 72) := fun w2 rv2 S => by
    refine ⟨F01.trans S.fr fun k _ hs => ?_, fun k hk => ?_, (S.fr.block z hlz ?_).trans hz⟩
    · rcases hs with hs | hs
      · exact hs
      · cases hs
    · rcases Nat.lt_or_ge k w0.heap.size with hl | hl
      · have := S.own k hk hl
        cases this
      · have := F01.size; omega
    · rintro (hs | hs)
      · omega
      · cases hs
  have hT : ∀ w2 a, TreeAt (From w0.heap.size) w2 x a → TreeAt (From w.heap.size) w2 x a := fun w2 a T => T.mono F01.size
  clear hL z1
  go_enter Tryz.func19, Tryz.ntmps19
  go_wp2_with fail
  clear ew ez c5 f5 F1 P1 F0 hz
  go_wp2_with (go_at_call 43; refine hx.mono ?_; rintro e w2 ⟨a, rv2, rfl, S2, T2⟩; obtain ⟨⟨-, -, -, -, -, d5⟩, -⟩ := S2.at_.cells; obtain ⟨A2, c2, rfl, -, -⟩ := own_slice S2.at_.refs; obtain ⟨F2, O2, hz2⟩ := fin _ _ S2; obtain ⟨hcB, hfB⟩ := blk_cells (hz2); have e0 := hcB 0; have ef0 := hfB 0; have e1 := hcB 1; have ef1 := hfB 1; clear hcB hfB)
  refine bodyPost_ret (by simp [results, Tryz.results19, go_sem, e0, e1]; rfl) rfl ?_
  have FZ : PFr (· = z) w2 ((w2.setCell ⟨z, 0, none⟩ (.pointer (some ⟨a, 0, none⟩))).setCell ⟨z, 1, none⟩ (.slice A2 s1.refs.length c2)) := by (exact pfrQ)
  exact ⟨x, a, _, rfl, rfl, S2.at_.far hz2 (by decide) hgt FZ, TreeAt.keep ⟨by decide, by decide⟩ (fun _ h _ => h) (keepO_far hz2 FZ).b x a (hT _ _ T2), F2.trans FZ fun k hk e => by omega, O2⟩
theorem isTrue_c (v : V) (w : World) : Calls Tryz.prog 101 #[.agg #[.int .i64 v.k, .int .i64 v.n, .string v.s]] w fun e w' => e = .returned (.bool (isTrueV v)) ∧ Below w.heap.size w w' := by
  go_enter Tryz.func101, Tryz.ntmps101
  go_wp2
  all_goals go_ret
  all_goals refine ⟨ret_bool ?_, by (exact belQ)⟩
  all_goals simp_all [isTrueV]
theorem isFalse_c (v : V) (w : World) : Calls Tryz.prog 157 #[.agg #[.int .i64 v.k, .int .i64 v.n, .string v.s]] w fun e w' => e = .returned (.bool (isFalseV v)) ∧ Below w.heap.size w w' := by
  go_enter Tryz.func157, Tryz.ntmps157
  go_wp2
  all_goals go_ret
  all_goals refine ⟨ret_bool ?_, by (exact belQ)⟩
  all_goals simp_all [isFalseV]
theorem number_c (n : Int) (w : World) : Calls Tryz.prog 102 #[.int .i64 n] w fun e w' => e = .returned (.agg #[.int .i64 (numV n).k, .int .i64 (numV n).n, .string (numV n).s]) ∧ Below w.heap.size w w' := by
  go_enter Tryz.func102, Tryz.ntmps102
  go_wp2_with (go_at_call 97; refine (vclean ⟨1, n, ⟨#[]⟩⟩ _).mono ?_; rintro e w1 ⟨rfl, hb1⟩; obtain ⟨hc1, hf1⟩ := bcell hb1; have hz1 := (hb1).size; try simp at hz1)
  refine bodyPost_ret (by simp [results, Tryz.results102, go_sem, hc1]; rfl) rfl ?_
  exact ⟨rfl, by (exact belQ)⟩
theorem truth_c (b : Bool) (w : World) : Calls Tryz.prog 100 #[.bool b] w fun e w' => e = .returned (.agg #[.int .i64 (truthV b).k, .int .i64 (truthV b).n, .string (truthV b).s]) ∧ Below w.heap.size w w' := by
  cases b
  all_goals go_enter Tryz.func100, Tryz.ntmps100
  all_goals go_wp2_with (go_at_call 102; refine (number_c _ _).mono ?_; rintro e w1 ⟨rfl, hb1⟩; obtain ⟨hc1, hf1⟩ := bcell hb1; have hz1 := (hb1).size; try simp at hz1)
  all_goals refine bodyPost_ret (by simp [results, Tryz.results100, go_sem, hc1]; rfl) rfl ?_
  all_goals exact ⟨rfl, by (exact belQ)⟩
theorem and_c (a b : V) (w : World) : Calls Tryz.prog 98 #[.agg #[.int .i64 a.k, .int .i64 a.n, .string a.s], .agg #[.int .i64 b.k, .int .i64 b.n, .string b.s]] w fun e w' => e = .returned (.agg #[.int .i64 (andV a b).k, .int .i64 (andV a b).n, .string (andV a b).s]) ∧ Below w.heap.size w w' := by
  have F1 := isFalse_c a
  have F2 := isFalse_c b
  have T1 := isTrue_c a
  have T2 := isTrue_c b
  have HE := Lib.hid (show andV a b = if (isFalseV a || isFalseV b) = true then truthV false else if (isTrueV a && isTrueV b) = true then truthV true else V.null from rfl)
  generalize andV a b = r at HE
  generalize isFalseV a = fa at F1 HE
  generalize isFalseV b = fb at F2 HE
  generalize isTrueV a = ta at T1 HE
  generalize isTrueV b = tb at T2 HE
  cases fa
  · cases fb
    · cases ta
      · have HR := Lib.hid (show r = V.null from HE.out)
        go_enter Tryz.func98, Tryz.ntmps98
        go_wp2_with (first
            | (go_at_call_of 157 (Value.agg #[.int .i64 a.k, .int .i64 a.n, .string a.s]); refine (F1 _).mono ?_; rintro e w1 ⟨rfl, hb1⟩; obtain ⟨hc1, hf1⟩ := bcell hb1; have hz1 := (hb1).size; (try simp at hz1); have hl10 : w.heap.size < w1.heap.size := (by omega); have hl11 : w.heap.size + 1 < w1.heap.size := (by omega); have hl12 : w.heap.size + 1 + 1 < w1.heap.size := (by omega)) | (go_at_call_of 157 (Value.agg #[.int .i64 b.k, .int .i64 b.n, .string b.s]); refine (F2 _).mono ?_; rintro e w1 ⟨rfl, hb1⟩; obtain ⟨hc1, hf1⟩ := bcell hb1; have hz1 := (hb1).size; (try simp at hz1); have hl10 : w.heap.size < w1.heap.size := (by omega); have hl11 : w.heap.size + 1 < w1.heap.size := (by omega); have hl12 : w.heap.size + 1 + 1 < w1.heap.size := (by omega))
            | (go_at_call_of 101 (Value.agg #[.int .i64 a.k, .int .i64 a.n, .string a.s]); refine (T1 _).mono ?_; rintro e w1 ⟨rfl, hb1⟩; obtain ⟨hc1, hf1⟩ := bcell hb1; have hz1 := (hb1).size; (try simp at hz1); have hl10 : w.heap.size < w1.heap.size := (by omega); have hl11 : w.heap.size + 1 < w1.heap.size := (by omega); have hl12 : w.heap.size + 1 + 1 < w1.heap.size := (by omega)) | (go_at_call_of 101 (Value.agg #[.int .i64 b.k, .int .i64 b.n, .string b.s]); refine (T2 _).mono ?_; rintro e w1 ⟨rfl, hb1⟩; obtain ⟨hc1, hf1⟩ := bcell hb1; have hz1 := (hb1).size; (try simp at hz1); have hl10 : w.heap.size < w1.heap.size := (by omega); have hl11 : w.heap.size + 1 < w1.heap.size := (by omega); have hl12 : w.heap.size + 1 + 1 < w1.heap.size := (by omega))
            | (go_at_call 100; refine (truth_c _ _).mono ?_; rintro e w1 ⟨rfl, hb1⟩; obtain ⟨hc1, hf1⟩ := bcell hb1; have hz1 := (hb1).size; (try simp at hz1); have hl10 : w.heap.size < w1.heap.size := (by omega); have hl11 : w.heap.size + 1 < w1.heap.size := (by omega); have hl12 : w.heap.size + 1 + 1 < w1.heap.size := (by omega)))
        refine bodyPost_ret (by simp [results, Tryz.results98, go_sem, *]; rfl) rfl ?_
        rw [HR.out]
        exact ⟨rfl, by (exact belQ)⟩
      · cases tb
        · have HR := Lib.hid (show r = V.null from HE.out)
          go_enter Tryz.func98, Tryz.ntmps98
          go_wp2_with (first
              | (go_at_call_of 157 (Value.agg #[.int .i64 a.k, .int .i64 a.n, .string a.s]); refine (F1 _).mono ?_; rintro e w1 ⟨rfl, hb1⟩; obtain ⟨hc1, hf1⟩ := bcell hb1; have hz1 := (hb1).size; (try simp at hz1); have hl10 : w.heap.size < w1.heap.size := (by omega); have hl11 : w.heap.size + 1 < w1.heap.size := (by omega); have hl12 : w.heap.size + 1 + 1 < w1.heap.size := (by omega)) | (go_at_call_of 157 (Value.agg #[.int .i64 b.k, .int .i64 b.n, .string b.s]); refine (F2 _).mono ?_; rintro e w1 ⟨rfl, hb1⟩; obtain ⟨hc1, hf1⟩ := bcell hb1; have hz1 := (hb1).size; (try simp at hz1); have hl10 : w.heap.size < w1.heap.size := (by omega); have hl11 : w.heap.size + 1 < w1.heap.size := (by omega); have hl12 : w.heap.size + 1 + 1 < w1.heap.size := (by omega))
              | (go_at_call_of 101 (Value.agg #[.int .i64 a.k, .int .i64 a.n, .string a.s]); refine (T1 _).mono ?_; rintro e w1 ⟨rfl, hb1⟩; obtain ⟨hc1, hf1⟩ := bcell hb1; have hz1 := (hb1).size; (try simp at hz1); have hl10 : w.heap.size < w1.heap.size := (by omega); have hl11 : w.heap.size + 1 < w1.heap.size := (by omega); have hl12 : w.heap.size + 1 + 1 < w1.heap.size := (by omega)) | (go_at_call_of 101 (Value.agg #[.int .i64 b.k, .int .i64 b.n, .string b.s]); refine (T2 _).mono ?_; rintro e w1 ⟨rfl, hb1⟩; obtain ⟨hc1, hf1⟩ := bcell hb1; have hz1 := (hb1).size; (try simp at hz1); have hl10 : w.heap.size < w1.heap.size := (by omega); have hl11 : w.heap.size + 1 < w1.heap.size := (by omega); have hl12 : w.heap.size + 1 + 1 < w1.heap.size := (by omega))
              | (go_at_call 100; refine (truth_c _ _).mono ?_; rintro e w1 ⟨rfl, hb1⟩; obtain ⟨hc1, hf1⟩ := bcell hb1; have hz1 := (hb1).size; (try simp at hz1); have hl10 : w.heap.size < w1.heap.size := (by omega); have hl11 : w.heap.size + 1 < w1.heap.size := (by omega); have hl12 : w.heap.size + 1 + 1 < w1.heap.size := (by omega)))
          refine bodyPost_ret (by simp [results, Tryz.results98, go_sem, *]; rfl) rfl ?_
          rw [HR.out]
          exact ⟨rfl, by (exact belQ)⟩
        · have HR := Lib.hid (show r = truthV true from HE.out)
          go_enter Tryz.func98, Tryz.ntmps98
          go_wp2_with (first
              | (go_at_call_of 157 (Value.agg #[.int .i64 a.k, .int .i64 a.n, .string a.s]); refine (F1 _).mono ?_; rintro e w1 ⟨rfl, hb1⟩; obtain ⟨hc1, hf1⟩ := bcell hb1; have hz1 := (hb1).size; (try simp at hz1); have hl10 : w.heap.size < w1.heap.size := (by omega); have hl11 : w.heap.size + 1 < w1.heap.size := (by omega); have hl12 : w.heap.size + 1 + 1 < w1.heap.size := (by omega)) | (go_at_call_of 157 (Value.agg #[.int .i64 b.k, .int .i64 b.n, .string b.s]); refine (F2 _).mono ?_; rintro e w1 ⟨rfl, hb1⟩; obtain ⟨hc1, hf1⟩ := bcell hb1; have hz1 := (hb1).size; (try simp at hz1); have hl10 : w.heap.size < w1.heap.size := (by omega); have hl11 : w.heap.size + 1 < w1.heap.size := (by omega); have hl12 : w.heap.size + 1 + 1 < w1.heap.size := (by omega))
              | (go_at_call_of 101 (Value.agg #[.int .i64 a.k, .int .i64 a.n, .string a.s]); refine (T1 _).mono ?_; rintro e w1 ⟨rfl, hb1⟩; obtain ⟨hc1, hf1⟩ := bcell hb1; have hz1 := (hb1).size; (try simp at hz1); have hl10 : w.heap.size < w1.heap.size := (by omega); have hl11 : w.heap.size + 1 < w1.heap.size := (by omega); have hl12 : w.heap.size + 1 + 1 < w1.heap.size := (by omega)) | (go_at_call_of 101 (Value.agg #[.int .i64 b.k, .int .i64 b.n, .string b.s]); refine (T2 _).mono ?_; rintro e w1 ⟨rfl, hb1⟩; obtain ⟨hc1, hf1⟩ := bcell hb1; have hz1 := (hb1).size; (try simp at hz1); have hl10 : w.heap.size < w1.heap.size := (by omega); have hl11 : w.heap.size + 1 < w1.heap.size := (by omega); have hl12 : w.heap.size + 1 + 1 < w1.heap.size := (by omega))
              | (go_at_call 100; refine (truth_c _ _).mono ?_; rintro e w1 ⟨rfl, hb1⟩; obtain ⟨hc1, hf1⟩ := bcell hb1; have hz1 := (hb1).size; (try simp at hz1); have hl10 : w.heap.size < w1.heap.size := (by omega); have hl11 : w.heap.size + 1 < w1.heap.size := (by omega); have hl12 : w.heap.size + 1 + 1 < w1.heap.size := (by omega)))
          refine bodyPost_ret (by simp [results, Tryz.results98, go_sem, *]; rfl) rfl ?_
          rw [HR.out]
          exact ⟨rfl, by (exact belQ)⟩
    · have HR := Lib.hid (show r = truthV false from HE.out)
      go_enter Tryz.func98, Tryz.ntmps98
      go_wp2_with (first
          | (go_at_call_of 157 (Value.agg #[.int .i64 a.k, .int .i64 a.n, .string a.s]); refine (F1 _).mono ?_; rintro e w1 ⟨rfl, hb1⟩; obtain ⟨hc1, hf1⟩ := bcell hb1; have hz1 := (hb1).size; (try simp at hz1); have hl10 : w.heap.size < w1.heap.size := (by omega); have hl11 : w.heap.size + 1 < w1.heap.size := (by omega); have hl12 : w.heap.size + 1 + 1 < w1.heap.size := (by omega)) | (go_at_call_of 157 (Value.agg #[.int .i64 b.k, .int .i64 b.n, .string b.s]); refine (F2 _).mono ?_; rintro e w1 ⟨rfl, hb1⟩; obtain ⟨hc1, hf1⟩ := bcell hb1; have hz1 := (hb1).size; (try simp at hz1); have hl10 : w.heap.size < w1.heap.size := (by omega); have hl11 : w.heap.size + 1 < w1.heap.size := (by omega); have hl12 : w.heap.size + 1 + 1 < w1.heap.size := (by omega))
          | (go_at_call_of 101 (Value.agg #[.int .i64 a.k, .int .i64 a.n, .string a.s]); refine (T1 _).mono ?_; rintro e w1 ⟨rfl, hb1⟩; obtain ⟨hc1, hf1⟩ := bcell hb1; have hz1 := (hb1).size; (try simp at hz1); have hl10 : w.heap.size < w1.heap.size := (by omega); have hl11 : w.heap.size + 1 < w1.heap.size := (by omega); have hl12 : w.heap.size + 1 + 1 < w1.heap.size := (by omega)) | (go_at_call_of 101 (Value.agg #[.int .i64 b.k, .int .i64 b.n, .string b.s]); refine (T2 _).mono ?_; rintro e w1 ⟨rfl, hb1⟩; obtain ⟨hc1, hf1⟩ := bcell hb1; have hz1 := (hb1).size; (try simp at hz1); have hl10 : w.heap.size < w1.heap.size := (by omega); have hl11 : w.heap.size + 1 < w1.heap.size := (by omega); have hl12 : w.heap.size + 1 + 1 < w1.heap.size := (by omega))
          | (go_at_call 100; refine (truth_c _ _).mono ?_; rintro e w1 ⟨rfl, hb1⟩; obtain ⟨hc1, hf1⟩ := bcell hb1; have hz1 := (hb1).size; (try simp at hz1); have hl10 : w.heap.size < w1.heap.size := (by omega); have hl11 : w.heap.size + 1 < w1.heap.size := (by omega); have hl12 : w.heap.size + 1 + 1 < w1.heap.size := (by omega)))
      refine bodyPost_ret (by simp [results, Tryz.results98, go_sem, *]; rfl) rfl ?_
      rw [HR.out]
      exact ⟨rfl, by (exact belQ)⟩
  · have HR := Lib.hid (show r = truthV false from HE.out)
    go_enter Tryz.func98, Tryz.ntmps98
    go_wp2_with (first
        | (go_at_call_of 157 (Value.agg #[.int .i64 a.k, .int .i64 a.n, .string a.s]); refine (F1 _).mono ?_; rintro e w1 ⟨rfl, hb1⟩; obtain ⟨hc1, hf1⟩ := bcell hb1; have hz1 := (hb1).size; (try simp at hz1); have hl10 : w.heap.size < w1.heap.size := (by omega); have hl11 : w.heap.size + 1 < w1.heap.size := (by omega); have hl12 : w.heap.size + 1 + 1 < w1.heap.size := (by omega)) | (go_at_call_of 157 (Value.agg #[.int .i64 b.k, .int .i64 b.n, .string b.s]); refine (F2 _).mono ?_; rintro e w1 ⟨rfl, hb1⟩; obtain ⟨hc1, hf1⟩ := bcell hb1; have hz1 := (hb1).size; (try simp at hz1); have hl10 : w.heap.size < w1.heap.size := (by omega); have hl11 : w.heap.size + 1 < w1.heap.size := (by omega); have hl12 : w.heap.size + 1 + 1 < w1.heap.size := (by omega))
        | (go_at_call_of 101 (Value.agg #[.int .i64 a.k, .int .i64 a.n, .string a.s]); refine (T1 _).mono ?_; rintro e w1 ⟨rfl, hb1⟩; obtain ⟨hc1, hf1⟩ := bcell hb1; have hz1 := (hb1).size; (try simp at hz1); have hl10 : w.heap.size < w1.heap.size := (by omega); have hl11 : w.heap.size + 1 < w1.heap.size := (by omega); have hl12 : w.heap.size + 1 + 1 < w1.heap.size := (by omega)) | (go_at_call_of 101 (Value.agg #[.int .i64 b.k, .int .i64 b.n, .string b.s]); refine (T2 _).mono ?_; rintro e w1 ⟨rfl, hb1⟩; obtain ⟨hc1, hf1⟩ := bcell hb1; have hz1 := (hb1).size; (try simp at hz1); have hl10 : w.heap.size < w1.heap.size := (by omega); have hl11 : w.heap.size + 1 < w1.heap.size := (by omega); have hl12 : w.heap.size + 1 + 1 < w1.heap.size := (by omega))
        | (go_at_call 100; refine (truth_c _ _).mono ?_; rintro e w1 ⟨rfl, hb1⟩; obtain ⟨hc1, hf1⟩ := bcell hb1; have hz1 := (hb1).size; (try simp at hz1); have hl10 : w.heap.size < w1.heap.size := (by omega); have hl11 : w.heap.size + 1 < w1.heap.size := (by omega); have hl12 : w.heap.size + 1 + 1 < w1.heap.size := (by omega)))
    refine bodyPost_ret (by simp [results, Tryz.results98, go_sem, *]; rfl) rfl ?_
    rw [HR.out]
    exact ⟨rfl, by (exact belQ)⟩
theorem or_c (a b : V) (w : World) : Calls Tryz.prog 99 #[.agg #[.int .i64 a.k, .int .i64 a.n, .string a.s], .agg #[.int .i64 b.k, .int .i64 b.n, .string b.s]] w fun e w' => e = .returned (.agg #[.int .i64 (orV a b).k, .int .i64 (orV a b).n, .string (orV a b).s]) ∧ Below w.heap.size w w' := by
  have F1 := isTrue_c a
  have F2 := isTrue_c b
  have T1 := isFalse_c a
  have T2 := isFalse_c b
  have HE := Lib.hid (show orV a b = if (isTrueV a || isTrueV b) = true then truthV true else if (isFalseV a && isFalseV b) = true then truthV false else V.null from rfl)
  generalize orV a b = r at HE
  generalize isTrueV a = fa at F1 HE
  generalize isTrueV b = fb at F2 HE
  generalize isFalseV a = ta at T1 HE
  generalize isFalseV b = tb at T2 HE
  cases fa
  · cases fb
    · cases ta
      · have HR := Lib.hid (show r = V.null from HE.out)
        go_enter Tryz.func99, Tryz.ntmps99
        go_wp2_with (first
            | (go_at_call_of 101 (Value.agg #[.int .i64 a.k, .int .i64 a.n, .string a.s]); refine (F1 _).mono ?_; rintro e w1 ⟨rfl, hb1⟩; obtain ⟨hc1, hf1⟩ := bcell hb1; have hz1 := (hb1).size; (try simp at hz1); have hl10 : w.heap.size < w1.heap.size := (by omega); have hl11 : w.heap.size + 1 < w1.heap.size := (by omega); have hl12 : w.heap.size + 1 + 1 < w1.heap.size := (by omega)) | (go_at_call_of 101 (Value.agg #[.int .i64 b.k, .int .i64 b.n, .string b.s]); refine (F2 _).mono ?_; rintro e w1 ⟨rfl, hb1⟩; obtain ⟨hc1, hf1⟩ := bcell hb1; have hz1 := (hb1).size; (try simp at hz1); have hl10 : w.heap.size < w1.heap.size := (by omega); have hl11 : w.heap.size + 1 < w1.heap.size := (by omega); have hl12 : w.heap.size + 1 + 1 < w1.heap.size := (by omega))
            | (go_at_call_of 157 (Value.agg #[.int .i64 a.k, .int .i64 a.n, .string a.s]); refine (T1 _).mono ?_; rintro e w1 ⟨rfl, hb1⟩; obtain ⟨hc1, hf1⟩ := bcell hb1; have hz1 := (hb1).size; (try simp at hz1); have hl10 : w.heap.size < w1.heap.size := (by omega); have hl11 : w.heap.size + 1 < w1.heap.size := (by omega); have hl12 : w.heap.size + 1 + 1 < w1.heap.size := (by omega)) | (go_at_call_of 157 (Value.agg #[.int .i64 b.k, .int .i64 b.n, .string b.s]); refine (T2 _).mono ?_; rintro e w1 ⟨rfl, hb1⟩; obtain ⟨hc1, hf1⟩ := bcell hb1; have hz1 := (hb1).size; (try simp at hz1); have hl10 : w.heap.size < w1.heap.size := (by omega); have hl11 : w.heap.size + 1 < w1.heap.size := (by omega); have hl12 : w.heap.size + 1 + 1 < w1.heap.size := (by omega))
            | (go_at_call 100; refine (truth_c _ _).mono ?_; rintro e w1 ⟨rfl, hb1⟩; obtain ⟨hc1, hf1⟩ := bcell hb1; have hz1 := (hb1).size; (try simp at hz1); have hl10 : w.heap.size < w1.heap.size := (by omega); have hl11 : w.heap.size + 1 < w1.heap.size := (by omega); have hl12 : w.heap.size + 1 + 1 < w1.heap.size := (by omega)))
        refine bodyPost_ret (by simp [results, Tryz.results99, go_sem, *]; rfl) rfl ?_
        rw [HR.out]
        exact ⟨rfl, by (exact belQ)⟩
      · cases tb
        · have HR := Lib.hid (show r = V.null from HE.out)
          go_enter Tryz.func99, Tryz.ntmps99
          go_wp2_with (first
              | (go_at_call_of 101 (Value.agg #[.int .i64 a.k, .int .i64 a.n, .string a.s]); refine (F1 _).mono ?_; rintro e w1 ⟨rfl, hb1⟩; obtain ⟨hc1, hf1⟩ := bcell hb1; have hz1 := (hb1).size; (try simp at hz1); have hl10 : w.heap.size < w1.heap.size := (by omega); have hl11 : w.heap.size + 1 < w1.heap.size := (by omega); have hl12 : w.heap.size + 1 + 1 < w1.heap.size := (by omega)) | (go_at_call_of 101 (Value.agg #[.int .i64 b.k, .int .i64 b.n, .string b.s]); refine (F2 _).mono ?_; rintro e w1 ⟨rfl, hb1⟩; obtain ⟨hc1, hf1⟩ := bcell hb1; have hz1 := (hb1).size; (try simp at hz1); have hl10 : w.heap.size < w1.heap.size := (by omega); have hl11 : w.heap.size + 1 < w1.heap.size := (by omega); have hl12 : w.heap.size + 1 + 1 < w1.heap.size := (by omega))
              | (go_at_call_of 157 (Value.agg #[.int .i64 a.k, .int .i64 a.n, .string a.s]); refine (T1 _).mono ?_; rintro e w1 ⟨rfl, hb1⟩; obtain ⟨hc1, hf1⟩ := bcell hb1; have hz1 := (hb1).size; (try simp at hz1); have hl10 : w.heap.size < w1.heap.size := (by omega); have hl11 : w.heap.size + 1 < w1.heap.size := (by omega); have hl12 : w.heap.size + 1 + 1 < w1.heap.size := (by omega)) | (go_at_call_of 157 (Value.agg #[.int .i64 b.k, .int .i64 b.n, .string b.s]); refine (T2 _).mono ?_; rintro e w1 ⟨rfl, hb1⟩; obtain ⟨hc1, hf1⟩ := bcell hb1; have hz1 := (hb1).size; (try simp at hz1); have hl10 : w.heap.size < w1.heap.size := (by omega); have hl11 : w.heap.size + 1 < w1.heap.size := (by omega); have hl12 : w.heap.size + 1 + 1 < w1.heap.size := (by omega))
              | (go_at_call 100; refine (truth_c _ _).mono ?_; rintro e w1 ⟨rfl, hb1⟩; obtain ⟨hc1, hf1⟩ := bcell hb1; have hz1 := (hb1).size; (try simp at hz1); have hl10 : w.heap.size < w1.heap.size := (by omega); have hl11 : w.heap.size + 1 < w1.heap.size := (by omega); have hl12 : w.heap.size + 1 + 1 < w1.heap.size := (by omega)))
          refine bodyPost_ret (by simp [results, Tryz.results99, go_sem, *]; rfl) rfl ?_
          rw [HR.out]
          exact ⟨rfl, by (exact belQ)⟩
        · have HR := Lib.hid (show r = truthV false from HE.out)
          go_enter Tryz.func99, Tryz.ntmps99
          go_wp2_with (first
              | (go_at_call_of 101 (Value.agg #[.int .i64 a.k, .int .i64 a.n, .string a.s]); refine (F1 _).mono ?_; rintro e w1 ⟨rfl, hb1⟩; obtain ⟨hc1, hf1⟩ := bcell hb1; have hz1 := (hb1).size; (try simp at hz1); have hl10 : w.heap.size < w1.heap.size := (by omega); have hl11 : w.heap.size + 1 < w1.heap.size := (by omega); have hl12 : w.heap.size + 1 + 1 < w1.heap.size := (by omega)) | (go_at_call_of 101 (Value.agg #[.int .i64 b.k, .int .i64 b.n, .string b.s]); refine (F2 _).mono ?_; rintro e w1 ⟨rfl, hb1⟩; obtain ⟨hc1, hf1⟩ := bcell hb1; have hz1 := (hb1).size; (try simp at hz1); have hl10 : w.heap.size < w1.heap.size := (by omega); have hl11 : w.heap.size + 1 < w1.heap.size := (by omega); have hl12 : w.heap.size + 1 + 1 < w1.heap.size := (by omega))
              | (go_at_call_of 157 (Value.agg #[.int .i64 a.k, .int .i64 a.n, .string a.s]); refine (T1 _).mono ?_; rintro e w1 ⟨rfl, hb1⟩; obtain ⟨hc1, hf1⟩ := bcell hb1; have hz1 := (hb1).size; (try simp at hz1); have hl10 : w.heap.size < w1.heap.size := (by omega); have hl11 : w.heap.size + 1 < w1.heap.size := (by omega); have hl12 : w.heap.size + 1 + 1 < w1.heap.size := (by omega)) | (go_at_call_of 157 (Value.agg #[.int .i64 b.k, .int .i64 b.n, .string b.s]); refine (T2 _).mono ?_; rintro e w1 ⟨rfl, hb1⟩; obtain ⟨hc1, hf1⟩ := bcell hb1; have hz1 := (hb1).size; (try simp at hz1); have hl10 : w.heap.size < w1.heap.size := (by omega); have hl11 : w.heap.size + 1 < w1.heap.size := (by omega); have hl12 : w.heap.size + 1 + 1 < w1.heap.size := (by omega))
              | (go_at_call 100; refine (truth_c _ _).mono ?_; rintro e w1 ⟨rfl, hb1⟩; obtain ⟨hc1, hf1⟩ := bcell hb1; have hz1 := (hb1).size; (try simp at hz1); have hl10 : w.heap.size < w1.heap.size := (by omega); have hl11 : w.heap.size + 1 < w1.heap.size := (by omega); have hl12 : w.heap.size + 1 + 1 < w1.heap.size := (by omega)))
          refine bodyPost_ret (by simp [results, Tryz.results99, go_sem, *]; rfl) rfl ?_
          rw [HR.out]
          exact ⟨rfl, by (exact belQ)⟩
    · have HR := Lib.hid (show r = truthV true from HE.out)
      go_enter Tryz.func99, Tryz.ntmps99
      go_wp2_with (first
          | (go_at_call_of 101 (Value.agg #[.int .i64 a.k, .int .i64 a.n, .string a.s]); refine (F1 _).mono ?_; rintro e w1 ⟨rfl, hb1⟩; obtain ⟨hc1, hf1⟩ := bcell hb1; have hz1 := (hb1).size; (try simp at hz1); have hl10 : w.heap.size < w1.heap.size := (by omega); have hl11 : w.heap.size + 1 < w1.heap.size := (by omega); have hl12 : w.heap.size + 1 + 1 < w1.heap.size := (by omega)) | (go_at_call_of 101 (Value.agg #[.int .i64 b.k, .int .i64 b.n, .string b.s]); refine (F2 _).mono ?_; rintro e w1 ⟨rfl, hb1⟩; obtain ⟨hc1, hf1⟩ := bcell hb1; have hz1 := (hb1).size; (try simp at hz1); have hl10 : w.heap.size < w1.heap.size := (by omega); have hl11 : w.heap.size + 1 < w1.heap.size := (by omega); have hl12 : w.heap.size + 1 + 1 < w1.heap.size := (by omega))
          | (go_at_call_of 157 (Value.agg #[.int .i64 a.k, .int .i64 a.n, .string a.s]); refine (T1 _).mono ?_; rintro e w1 ⟨rfl, hb1⟩; obtain ⟨hc1, hf1⟩ := bcell hb1; have hz1 := (hb1).size; (try simp at hz1); have hl10 : w.heap.size < w1.heap.size := (by omega); have hl11 : w.heap.size + 1 < w1.heap.size := (by omega); have hl12 : w.heap.size + 1 + 1 < w1.heap.size := (by omega)) | (go_at_call_of 157 (Value.agg #[.int .i64 b.k, .int .i64 b.n, .string b.s]); refine (T2 _).mono ?_; rintro e w1 ⟨rfl, hb1⟩; obtain ⟨hc1, hf1⟩ := bcell hb1; have hz1 := (hb1).size; (try simp at hz1); have hl10 : w.heap.size < w1.heap.size := (by omega); have hl11 : w.heap.size + 1 < w1.heap.size := (by omega); have hl12 : w.heap.size + 1 + 1 < w1.heap.size := (by omega))
          | (go_at_call 100; refine (truth_c _ _).mono ?_; rintro e w1 ⟨rfl, hb1⟩; obtain ⟨hc1, hf1⟩ := bcell hb1; have hz1 := (hb1).size; (try simp at hz1); have hl10 : w.heap.size < w1.heap.size := (by omega); have hl11 : w.heap.size + 1 < w1.heap.size := (by omega); have hl12 : w.heap.size + 1 + 1 < w1.heap.size := (by omega)))
      refine bodyPost_ret (by simp [results, Tryz.results99, go_sem, *]; rfl) rfl ?_
      rw [HR.out]
      exact ⟨rfl, by (exact belQ)⟩
  · have HR := Lib.hid (show r = truthV true from HE.out)
    go_enter Tryz.func99, Tryz.ntmps99
    go_wp2_with (first
        | (go_at_call_of 101 (Value.agg #[.int .i64 a.k, .int .i64 a.n, .string a.s]); refine (F1 _).mono ?_; rintro e w1 ⟨rfl, hb1⟩; obtain ⟨hc1, hf1⟩ := bcell hb1; have hz1 := (hb1).size; (try simp at hz1); have hl10 : w.heap.size < w1.heap.size := (by omega); have hl11 : w.heap.size + 1 < w1.heap.size := (by omega); have hl12 : w.heap.size + 1 + 1 < w1.heap.size := (by omega)) | (go_at_call_of 101 (Value.agg #[.int .i64 b.k, .int .i64 b.n, .string b.s]); refine (F2 _).mono ?_; rintro e w1 ⟨rfl, hb1⟩; obtain ⟨hc1, hf1⟩ := bcell hb1; have hz1 := (hb1).size; (try simp at hz1); have hl10 : w.heap.size < w1.heap.size := (by omega); have hl11 : w.heap.size + 1 < w1.heap.size := (by omega); have hl12 : w.heap.size + 1 + 1 < w1.heap.size := (by omega))
        | (go_at_call_of 157 (Value.agg #[.int .i64 a.k, .int .i64 a.n, .string a.s]); refine (T1 _).mono ?_; rintro e w1 ⟨rfl, hb1⟩; obtain ⟨hc1, hf1⟩ := bcell hb1; have hz1 := (hb1).size; (try simp at hz1); have hl10 : w.heap.size < w1.heap.size := (by omega); have hl11 : w.heap.size + 1 < w1.heap.size := (by omega); have hl12 : w.heap.size + 1 + 1 < w1.heap.size := (by omega)) | (go_at_call_of 157 (Value.agg #[.int .i64 b.k, .int .i64 b.n, .string b.s]); refine (T2 _).mono ?_; rintro e w1 ⟨rfl, hb1⟩; obtain ⟨hc1, hf1⟩ := bcell hb1; have hz1 := (hb1).size; (try simp at hz1); have hl10 : w.heap.size < w1.heap.size := (by omega); have hl11 : w.heap.size + 1 < w1.heap.size := (by omega); have hl12 : w.heap.size + 1 + 1 < w1.heap.size := (by omega))
        | (go_at_call 100; refine (truth_c _ _).mono ?_; rintro e w1 ⟨rfl, hb1⟩; obtain ⟨hc1, hf1⟩ := bcell hb1; have hz1 := (hb1).size; (try simp at hz1); have hl10 : w.heap.size < w1.heap.size := (by omega); have hl11 : w.heap.size + 1 < w1.heap.size := (by omega); have hl12 : w.heap.size + 1 + 1 < w1.heap.size := (by omega)))
    refine bodyPost_ret (by simp [results, Tryz.results99, go_sem, *]; rfl) rfl ?_
    rw [HR.out]
    exact ⟨rfl, by (exact belQ)⟩
end Go.Proofs.YtpnfbehbheddeaaGreatDoor
