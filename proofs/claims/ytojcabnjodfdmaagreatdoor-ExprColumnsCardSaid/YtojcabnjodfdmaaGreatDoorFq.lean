/- Contracts of the reference's Add and Columns, and of SameInts. -/
import Derived.Test.YtojcabnjodfdmaaGreatDoorFp
import Derived.BigQuiet
namespace Go.Proofs.YtojcabnjodfdmaaGreatDoor
open Go.RowKit

section
variable {P : Program} {ops : Array Oper} {o : Oper} {a : Act} {Q : Exit → Act → World → Prop} {w : World}
theorem ints_one (l : List Int) : ∀ u ∈ l.map (Value.int .i64), u.oneCell' = true := by
  intro u hu
  obtain ⟨c, _, rfl⟩ := List.mem_map.1 hu
  rfl
theorem step_appAny {K : Act → World → Prop} {E : Prop} (hgd : o.guard = none) (s x : Operand) {t e : TypeId} {size bytes : Nat} (ST : SliceTy P t e size bytes)
    (ho : o.op = .call { callee := .builtin .append, args := #[s, x], argTypes := #[t, t] })
    {base : Nat} {v : Value} {n : Nat} {xs : List Value} (hs : a.eval s = v) (hown : w.ownsRow base e size v n xs)
    {A : Option Addr} {m c B : Nat} {news : List Value} (hx : a.eval x = .slice A m c) (hl : news.length = m * size) (hr : Rd w B A news) (hnone : A = none → c = 0) (h1 : ∀ u ∈ news, u.oneCell' = true)
    (hbytes : (n + m) * bytes ≤ 140737488355328) (hbase : base ≤ w.heap.size)
    (h : ∀ v' w', w'.ownsRow base e size v' (n + m) (xs ++ news) → w.grownBy w' v.ownBlock → (v'.ownBlock = v.ownBlock ∨ v'.ownBlock = some w.heap.size) → K (a.put o.dst v') w') :
    if Region.wanted o (yielded ops a.tmps) = true then Oper.wp P o a w K Q else E := by
  rw [if_pos (by simp [Region.wanted, hgd])]
  exact wp_appAny s x ST ho hs hown hx hl hr hnone h1 hbytes hbase h
end
theorem RowI.cells {w : World} {B n : Nat} {A : Option Addr} {zs : List Int} (h : RowI w B A n zs) : ∀ b off, A = some ⟨b, off, none⟩ → ∀ (k : Nat) z, zs[k]? = some z → w.cell? ⟨b, off + k, none⟩ = some (.int .i64 z) := by
  intro b off hA k z hk
  have hkn : k < n := by have := (List.getElem?_eq_some_iff.1 hk).1; have := h.len; omega
  obtain ⟨b', off', z', e1, _, e2, e3⟩ := RowI.at1 h hkn
  rw [hA] at e1
  injection e1 with e1
  injection e1 with e11 e12
  subst e11 e12
  obtain rfl := Option.some.inj (e2.symm.trans hk)
  exact e3
theorem below_ap0 {w w' W : World} {t : TypeId} (hg : W.grownBy w' (some w.heap.size)) (ho : W.os = w.os := by rfl) (ht : W.tape = w.tape := by rfl) (hp : W.output = w.output := by rfl) (hh : W.heap = (w.alloc (.cells #[] t)).heap := by rfl) : Below w.heap.size w w' :=
  ((Below.refl w.heap.size w).alloc (Nat.le_refl _) (.cells #[] t)).grown ⟨hg.os.trans ho, hg.tape.trans ht, hg.output.trans hp, hh ▸ hg.size, hh ▸ hg.block⟩ (by simp) (fun k hk => by injection hk with hk; omega)
theorem below_ap1 {w a w' W : World} {B : Nat} {e t : TypeId} {size n : Nat} {v : Value} {xs : List Value} {cs : Array Value} (h : Below B w a) (hown : a.ownsRow B e size v n xs) (hg : W.grownBy w' v.ownBlock) (ho : W.os = a.os := by rfl) (ht : W.tape = a.tape := by rfl) (hp : W.output = a.output := by rfl) (hh : W.heap = (a.alloc (.cells cs t)).heap := by rfl) (hB : B ≤ a.heap.size := by omega) : Below B w w' :=
  (h.alloc hB (.cells cs t)).grown ⟨hg.os.trans ho, hg.tape.trans ht, hg.output.trans hp, hh ▸ hg.size, hh ▸ hg.block⟩ (by simp; omega) (fun k hk => (hown.lt k hk).1)
theorem below_ap2 {w a w' W : World} {B : Nat} {e : TypeId} {size n : Nat} {v : Value} {xs : List Value} (h : Below B w a) (hown : a.ownsRow B e size v n xs) (hg : W.grownBy w' v.ownBlock) (ho : W.os = a.os := by rfl) (ht : W.tape = a.tape := by rfl) (hp : W.output = a.output := by rfl) (hh : W.heap = a.heap := by rfl) (hB : B ≤ a.heap.size := by omega) : Below B w w' :=
  h.grown ⟨hg.os.trans ho, hg.tape.trans ht, hg.output.trans hp, hh ▸ hg.size, hh ▸ hg.block⟩ hB (fun k hk => (hown.lt k hk).1)
set_option maxRecDepth 100000 in
set_option maxHeartbeats 1000000 in
theorem sameInts_c (A B : Option Addr) (n c d : Nat) (zs : List Int) (w : World) (hn : n ≤ 1000) (hr : RowI w w.heap.size A n zs) (hs : RowI w w.heap.size B n zs) : Calls Tryz.prog 18 #[.slice A n c, .slice B n d] w fun e w' => e = .returned (.bool true) ∧ Below w.heap.size w w' := by
  have tn : ((n : Int) != (n : Int)) = false := by simp
  go_enter Tryz.func18, Tryz.ntmps18
  go_wp2_with fail
  go_loopw [5] (fun v5 wr => ∃ k : Nat, v5 = .int .i64 (k : Int) ∧ k ≤ n ∧ Below w.heap.size w wr) (fun v5 _ => n - (intOf v5).toNat)
  case atStart => exact ⟨0, rfl, by omega, by (repeat (first | (with_reducible exact Below.refl _ _) | (with_reducible assumption) | (with_reducible refine Below.drew ?_) | (with_reducible refine below_drewN ?_ _) | ((with_reducible refine Below.setCell ?_ ?_ _); rotate_left; (focus (first | (simp; done) | (simp; omega) | omega))) | ((with_reducible refine Below.alloc ?_ ?_ _); rotate_left; (focus (first | (simp; done) | (simp; omega) | omega))) | ((with_reducible apply below_step1); (focus (with_reducible assumption)))))⟩
  case round =>
    obtain ⟨k, rfl, hk, hbel⟩ := hrel
    have hzz := hbel.size
    by_cases hlt : k < n
    · have h1 : (k : Int) < (n : Int) := by omega
      have h0 : (0 : Int) ≤ (k : Int) := by omega
      have hkw : IntKind.i64.wrap ((k : Int) + 1) = (k : Int) + 1 := IntWalk.i64_in _ (by omega)
      obtain ⟨b, off, z, rfl, hb, hz1, c0⟩ := RowI.at1 (hr.to hbel) hlt
      obtain ⟨b', off', z', rfl, hb', hz2, d0⟩ := RowI.at1 (hs.to hbel) hlt
      obtain rfl := Option.some.inj (hz1.symm.trans hz2)
      have tz : (z != z) = false := by simp
      clear hz1 hz2
      go_wp2_with fail
      go_quiet (fail)
      go_wp2_with fail
      go_roundw
      case rel => exact ⟨k + 1, by go_num, by omega, by (repeat (first | (with_reducible exact Below.refl _ _) | (with_reducible assumption) | (with_reducible refine Below.drew ?_) | (with_reducible refine below_drewN ?_ _) | ((with_reducible refine Below.setCell ?_ ?_ _); rotate_left; (focus (first | (simp; done) | (simp; omega) | omega))) | ((with_reducible refine Below.alloc ?_ ?_ _); rotate_left; (focus (first | (simp; done) | (simp; omega) | omega))) | ((with_reducible apply below_step1); (focus (with_reducible assumption)))))⟩
      case measure => simp [intOf]; omega
    · have h1 : ¬ (k : Int) < (n : Int) := by omega
      go_wp2_with fail
      go_ret
      exact ⟨rfl, by (repeat (first | (with_reducible exact Below.refl _ _) | (with_reducible assumption) | (with_reducible refine Below.drew ?_) | (with_reducible refine below_drewN ?_ _) | ((with_reducible refine Below.setCell ?_ ?_ _); rotate_left; (focus (first | (simp; done) | (simp; omega) | omega))) | ((with_reducible refine Below.alloc ?_ ?_ _); rotate_left; (focus (first | (simp; done) | (simp; omega) | omega))) | ((with_reducible apply below_step1); (focus (with_reducible assumption)))))⟩

theorem addL_at : ∀ (l : List Int) (x : Int) (k : Nat), (∀ y ∈ l.take k, y < x) → k ≤ l.length → (∀ z, l[k]? = some z → x < z) → addL l x = l.take k ++ x :: l.drop k := by
  intro l
  induction l with
  | nil => intro x k _ hk _; simp at hk; subst hk; rfl
  | cons a l ih =>
    intro x k h1 hk h2
    rcases k with _ | k
    · have := h2 a rfl
      unfold addL
      rw [if_neg (by omega), if_neg (by omega)]
      rfl
    · have ha : a < x := h1 a (by simp)
      unfold addL
      rw [if_pos ha, ih x k (fun y hy => h1 y (by simp [hy])) (by simpa using hk) (fun z hz => h2 z (by simpa using hz))]
      rfl
theorem addL_has : ∀ (l : List Int) (x : Int) (k : Nat), (∀ y ∈ l.take k, y < x) → l[k]? = some x → addL l x = l := by
  intro l
  induction l with
  | nil => intro x k _ h; simp at h
  | cons a l ih =>
    intro x k h1 h2
    rcases k with _ | k
    · simp at h2
      subst h2
      unfold addL
      rw [if_neg (by omega), if_pos rfl]
    · have ha : a < x := h1 a (by simp)
      unfold addL
      rw [if_pos ha, ih x k (fun y hy => h1 y (by simp [hy])) (by simpa using h2)]
theorem take_lt {l : List Int} {x z : Int} {k : Nat} (h : ∀ y ∈ l.take k, y < x) (hz : l[k]? = some z) (hx : z < x) : ∀ y ∈ l.take (k + 1), y < x := by
  intro y hy
  rw [List.take_add_one, hz, Option.toList_some, List.mem_append] at hy
  rcases hy with hy | hy
  · exact h y hy
  · simp at hy; subst hy; exact hx
theorem rdI_take {w : World} {B b off n k : Nat} {l : List Int} (h : RowI w B (some ⟨b, off, none⟩) n l) (_hk : k ≤ n) : Rd w B (some ⟨b, off, none⟩) ((l.take k).map (Value.int .i64)) := by
  intro hne
  have h0 : l ≠ [] := by rintro rfl; simp at hne
  obtain ⟨b', off', e1, h2, h3⟩ := h.rd (by rw [iflat]; simpa using h0)
  injection e1 with e1
  injection e1 with e11 e12
  subst e11 e12
  refine ⟨b, off, rfl, h2, fun j u hu => h3 j u ?_⟩
  rw [iflat, List.getElem?_map]
  rw [List.getElem?_map] at hu
  rcases Nat.lt_or_ge j k with hj | hj
  · rwa [List.getElem?_take_of_lt hj] at hu
  · rw [List.getElem?_eq_none (by rw [List.length_take]; omega)] at hu
    cases hu
theorem rdI_drop {w : World} {B b off n k : Nat} {l : List Int} (h : RowI w B (some ⟨b, off, none⟩) n l) (_hk : k ≤ n) : Rd w B (some ⟨b, off + k, none⟩) ((l.drop k).map (Value.int .i64)) := by
  intro hne
  have h0 : l ≠ [] := by rintro rfl; simp at hne
  obtain ⟨b', off', e1, h2, h3⟩ := h.rd (by rw [iflat]; simpa using h0)
  injection e1 with e1
  injection e1 with e11 e12
  subst e11 e12
  refine ⟨b, off + k, rfl, h2, fun j u hu => ?_⟩
  rw [Nat.add_assoc]
  refine h3 (k + j) u ?_
  rw [iflat, List.getElem?_map]
  rwa [List.getElem?_map, List.getElem?_drop] at hu
theorem lit_kept {a W w' : World} {q : Nat} {r : Option Nat} {x : Int} (hc : a.heap[q]? = some (.cells #[.int .i64 x] 3 (0, 0))) (hg : W.grownBy w' r) (hne : r ≠ some q) (hh : W.heap = a.heap := by rfl) : Rd w' w'.heap.size (some ⟨q, 0, none⟩) [.int .i64 x] := by
  have hlt : q < a.heap.size := by
    rcases Nat.lt_or_ge q a.heap.size with hl | hl
    · exact hl
    · rw [Array.getElem?_eq_none hl] at hc; cases hc
  have h2 : w'.heap[q]? = some (.cells #[.int .i64 x] 3 (0, 0)) := ((hg.block q (by rw [hh]; exact hlt) (Ne.symm hne)).trans (by rw [hh])).trans hc
  obtain ⟨cc, _⟩ := blk_rules h2
  intro _
  refine ⟨q, 0, rfl, Nat.lt_of_lt_of_le hlt (hh ▸ hg.size), fun j u hu => ?_⟩
  rw [Nat.zero_add, cc j]
  simpa using hu
theorem own_cast {w : World} {base n n' : Nat} {e : TypeId} {v : Value} {xs ys : List Value} (h : w.ownsRow base e 1 v n xs) (hx : xs = ys) (hn : n = n') : w.ownsRow base e 1 v n' ys := by
  subst hx hn
  exact h
/-- What Add leaves: the list itself, or a new row. -/
def AdPost (w : World) (A : Option Addr) (n c : Nat) (l : List Int) (x : Int) (e : Ending) (w' : World) : Prop :=
  ∃ v, e = .returned v ∧ ((v = .slice A n c ∧ addL l x = l) ∨ w'.ownsRow w.heap.size 3 1 v (addL l x).length ((addL l x).map (Value.int .i64))) ∧ Below w.heap.size w w'
set_option maxRecDepth 100000 in
set_option maxHeartbeats 4000000 in
theorem radd (A : Option Addr) (n c : Nat) (l : List Int) (x : Int) (w : World) (hn : n ≤ 1000) (hnc : n ≤ c) (hcm : c ≤ maxLen) (hA : (A = none ∧ n = 0 ∧ c = 0) ∨ 0 < n) (hr : RowI w w.heap.size A n l) : Calls Tryz.prog 39 #[.slice A n c, .int .i64 x] w (AdPost w A n c l x) := by
  have HN := Lib.hid hr.len
  go_enter Tryz.func39, Tryz.ntmps39
  go_wp2_with fail
  go_loopw [5] (fun v5 wr => ∃ k : Nat, v5 = .int .i64 (k : Int) ∧ k ≤ n ∧ Hid (∀ y ∈ l.take k, y < x) ∧ Below w.heap.size w wr) (fun v5 _ => n - (intOf v5).toNat)
  case atStart => exact ⟨0, rfl, by omega, fun y hy => by simp at hy, by (repeat (first | (with_reducible exact Below.refl _ _) | (with_reducible assumption) | (with_reducible refine Below.drew ?_) | (with_reducible refine below_drewN ?_ _) | ((with_reducible refine Below.setCell ?_ ?_ _); rotate_left; (focus (first | (simp; done) | (simp; omega) | omega))) | ((with_reducible refine Below.alloc ?_ ?_ _); rotate_left; (focus (first | (simp; done) | (simp; omega) | omega))) | ((with_reducible apply below_step1); (focus (with_reducible assumption)))))⟩
  case round =>
    obtain ⟨k, rfl, hk, HK, hbel⟩ := hrel
    have hzz := hbel.size
    have new : addL l x = l.take k ++ x :: l.drop k → True := fun _ => trivial
    clear new
    by_cases hlt : k < n
    · have h1 : (k : Int) < (n : Int) := by omega
      have h0 : (0 : Int) ≤ (k : Int) := by omega
      have hkw : IntKind.i64.wrap ((k : Int) + 1) = (k : Int) + 1 := IntWalk.i64_in _ (by omega)
      obtain ⟨b, off, z, rfl, hb, hz1, c0⟩ := RowI.at1 (hr.to hbel) hlt
      have HZ := Lib.hid hz1
      clear hz1
      by_cases hzx : z < x
      · have HZX := Lib.hid hzx
        go_wp2_with fail
        go_roundw
        case rel => exact ⟨k + 1, by go_num, by omega, take_lt HK.out HZ.out HZX.out, by (repeat (first | (with_reducible exact Below.refl _ _) | (with_reducible assumption) | (with_reducible refine Below.drew ?_) | (with_reducible refine below_drewN ?_ _) | ((with_reducible refine Below.setCell ?_ ?_ _); rotate_left; (focus (first | (simp; done) | (simp; omega) | omega))) | ((with_reducible refine Below.alloc ?_ ?_ _); rotate_left; (focus (first | (simp; done) | (simp; omega) | omega))) | ((with_reducible apply below_step1); (focus (with_reducible assumption)))))⟩
        case measure => simp [intOf]; omega
      · by_cases hze : z = x
        · subst hze
          have te : (z == z) = true := by simp
          have HA := Lib.hid (addL_has l z k HK.out HZ.out)
          clear hzx
          have tl : ¬ z < z := by omega
          go_wp2_with fail
          go_ret
          exact ⟨_, rfl, .inl ⟨rfl, HA.out⟩, by (repeat (first | (with_reducible exact Below.refl _ _) | (with_reducible assumption) | (with_reducible refine Below.drew ?_) | (with_reducible refine below_drewN ?_ _) | ((with_reducible refine Below.setCell ?_ ?_ _); rotate_left; (focus (first | (simp; done) | (simp; omega) | omega))) | ((with_reducible refine Below.alloc ?_ ?_ _); rotate_left; (focus (first | (simp; done) | (simp; omega) | omega))) | ((with_reducible apply below_step1); (focus (with_reducible assumption)))))⟩
        · have te : (z == x) = false := by simpa using hze
          have HA := Lib.hid (addL_at l x k HK.out (by rw [HN.out]; omega) (fun z' hz' => by rw [HZ.out] at hz'; injection hz' with hz'; omega))
          have hk1 : (k : Int) ≤ (n : Int) := by omega
          have hk2 : (k : Int) ≤ (c : Int) := by omega
          have hk3 : (n : Int) ≤ (c : Int) := by omega
          have hck : ¬ c = k := by omega
          go_wp2_with fail
          have hll : ((l.take k).map (Value.int .i64)).length = k * 1 := by have := HN.out; simp; omega
          have hl2 : ((l.drop k).map (Value.int .i64)).length = (n - k) * 1 := by have := HN.out; simp; omega
          have hrd := rdI_take (hr.to hbel) hk
          have hrd2 := rdI_drop (hr.to hbel) hk
          have N0 : Hid (some (⟨b, off, none⟩ : Addr) = none → c = 0) := fun h => by cases h
          have hnc2 : n - k ≤ 1000 := by omega
          have on3 := ints_one (l.drop k)
          have ho1 := own_new wr #[] 3 1 0 (by decide) rfl
          have ho3 : ((wr.alloc (.cells #[.int .i64 x] 3)).alloc (.cells #[] 3)).ownsRow wr.heap.size 3 1 (.slice (some ⟨wr.heap.size + 1, 0, none⟩) 0 0) 0 [] := by
            have h := own_base (own_new (wr.alloc (.cells #[.int .i64 x] 3)) #[] 3 1 0 (by decide) rfl) (base' := wr.heap.size) (by simp)
            simpa using h
          have bC := (Below.refl wr.heap.size wr).alloc (Nat.le_refl _) (.cells #[] 3)
          have bA := bC.alloc (by simp) (.cells #[.int .i64 x] 3)
          have bB := ((Below.refl wr.heap.size wr).alloc (Nat.le_refl _) (.cells #[.int .i64 x] 3)).alloc (by simp) (.cells #[] 3)
          have lA : ((wr.alloc (.cells #[] 3)).alloc (.cells #[.int .i64 x] 3)).heap[wr.heap.size + 1]? = some (.cells #[.int .i64 x] 3 (0, 0)) := by
            have h := heap_alloc_new (wr.alloc (.cells #[] 3)) (.cells #[.int .i64 x] 3)
            simpa using h
          have lB : ((wr.alloc (.cells #[.int .i64 x] 3)).alloc (.cells #[] 3)).heap[wr.heap.size]? = some (.cells #[.int .i64 x] 3 (0, 0)) := (Below.heap_alloc _ _ _ (by simp)).trans (heap_alloc_new wr (.cells #[.int .i64 x] 3))
          have nA : (some wr.heap.size : Option Nat) ≠ some (wr.heap.size + 1) := by simp
          have nB : (some (wr.heap.size + 1) : Option Nat) ≠ some wr.heap.size := by simp
          have sA : wr.heap.size ≤ ((wr.alloc (.cells #[] 3)).alloc (.cells #[.int .i64 x] 3)).heap.size := bA.size
          have sB : wr.heap.size ≤ ((wr.alloc (.cells #[.int .i64 x] 3)).alloc (.cells #[] 3)).heap.size := bB.size
          have sC : wr.heap.size ≤ (wr.alloc (.cells #[] 3)).heap.size := bC.size
          go_region_law (first
            | (refine step_appAny (v := .slice (some ⟨wr.heap.size, 0, none⟩) 0 0) rfl _ _ stI rfl rfl ho1 rfl hll (hrd.keep fun p hp => bC.cell hp) N0.out (ints_one _) (by omega) sC ?_; intro v3 w3 own3 g3 at3; have b3 := below_ap2 bC ho1 g3 rfl rfl rfl rfl sC; have z3 := b3.size)
            | (refine step_appAny (v := .slice (some ⟨wr.heap.size, 0, none⟩) 0 0) rfl _ _ stI rfl rfl (ho1.alloc (.cells #[.int .i64 x] 3)) rfl hll (hrd.keep fun p hp => bA.cell hp) N0.out (ints_one _) (by omega) sA ?_; intro v3 w3 own3 g3 at3; have b3 := below_ap2 bA (ho1.alloc _) g3 rfl rfl rfl rfl sA; have z3 := b3.size; have L3 := lit_kept lA g3 nA rfl)
            | (refine step_appAny (v := .slice (some ⟨wr.heap.size + 1, 0, none⟩) 0 0) rfl _ _ stI rfl rfl ho3 rfl hll (hrd.keep fun p hp => bB.cell hp) N0.out (ints_one _) (by omega) sB ?_; intro v3 w3 own3 g3 at3; have b3 := below_ap2 bB ho3 g3 rfl rfl rfl rfl sB; have z3 := b3.size; have L3 := lit_kept lB g3 nB rfl)
            | (refine step_appAny (v := v3) rfl _ _ stI rfl rfl (own3.alloc _) rfl (news := [.int .i64 x]) rfl (Rd.of_own (own_new w3 #[.int .i64 x] 3 1 1 (by decide) rfl)) (fun h => by cases h) (ints_one [x]) (by omega) (by simp; omega) ?_; intro v4 w4 own4 g4 at4; have b4 := below_ap1 b3 own3 g4; have z4 := b4.size)
            | (refine step_appAny (v := v3) rfl _ _ stI rfl rfl own3 rfl (news := [.int .i64 x]) rfl L3 (fun h => by cases h) (ints_one [x]) (by omega) (by omega) ?_; intro v4 w4 own4 g4 at4; have b4 := below_ap2 b3 own3 g4; have z4 := b4.size)
            | (refine step_appAny (v := v4) rfl _ _ stI rfl rfl own4 rfl hl2 (hrd2.keep fun p hp => b4.cell hp) (by intro hh; first | rfl | (cases hh; done) | omega) on3 (by omega) z4 ?_; intro v5 w5 own5 g5 at5; have b5 := below_ap2 b4 own4 g5; have z5 := b5.size))
          all_goals go_wp2_with fail
          all_goals go_ret
          all_goals refine ⟨_, rfl, .inr ?_, below_step1 b5 hbel⟩
          all_goals (rw [HA.out]; refine own_cast (own_base own5 hzz) ?_ ?_)
          all_goals (first | (simp; done) | (have := HN.out; simp; omega))
    · obtain rfl : k = n := by omega
      have h1 : ¬ (k : Int) < (k : Int) := by omega
      have hA0 := addL_at l x k HK.out (by rw [HN.out]; exact Nat.le_refl _) (fun z' hz' => by rw [List.getElem?_eq_none (by rw [HN.out]; exact Nat.le_refl _)] at hz'; cases hz')
      rw [List.drop_eq_nil_of_le (by rw [HN.out]; exact Nat.le_refl _)] at hA0
      have HA := Lib.hid hA0
      clear hA0
      have hk2 : (k : Int) ≤ (c : Int) := by omega
      have hll : ((l.take k).map (Value.int .i64)).length = k * 1 := by have := HN.out; simp; omega
      have hl2 : ([] : List Value).length = 0 * 1 := rfl
      have on3 : ∀ u ∈ ([] : List Value), u.oneCell' = true := fun u hu => by cases hu
      rcases hA with ⟨rfl, rfl, rfl⟩ | hA
      · have hrd : Rd wr wr.heap.size none ((l.take 0).map (Value.int .i64)) := fun h => absurd rfl h
        have hrd2 : Rd wr wr.heap.size none ([] : List Value) := fun h => absurd rfl h
        have N0 : Hid ((none : Option Addr) = none → 0 = 0) := fun _ => rfl
        go_wp2_with fail
        have ho1 := own_new wr #[] 3 1 0 (by decide) rfl
        have ho3 : ((wr.alloc (.cells #[.int .i64 x] 3)).alloc (.cells #[] 3)).ownsRow wr.heap.size 3 1 (.slice (some ⟨wr.heap.size + 1, 0, none⟩) 0 0) 0 [] := by
          have h := own_base (own_new (wr.alloc (.cells #[.int .i64 x] 3)) #[] 3 1 0 (by decide) rfl) (base' := wr.heap.size) (by simp)
          simpa using h
        have bC := (Below.refl wr.heap.size wr).alloc (Nat.le_refl _) (.cells #[] 3)
        have bA := bC.alloc (by simp) (.cells #[.int .i64 x] 3)
        have bB := ((Below.refl wr.heap.size wr).alloc (Nat.le_refl _) (.cells #[.int .i64 x] 3)).alloc (by simp) (.cells #[] 3)
        have lA : ((wr.alloc (.cells #[] 3)).alloc (.cells #[.int .i64 x] 3)).heap[wr.heap.size + 1]? = some (.cells #[.int .i64 x] 3 (0, 0)) := by
          have h := heap_alloc_new (wr.alloc (.cells #[] 3)) (.cells #[.int .i64 x] 3)
          simpa using h
        have lB : ((wr.alloc (.cells #[.int .i64 x] 3)).alloc (.cells #[] 3)).heap[wr.heap.size]? = some (.cells #[.int .i64 x] 3 (0, 0)) := (Below.heap_alloc _ _ _ (by simp)).trans (heap_alloc_new wr (.cells #[.int .i64 x] 3))
        have nA : (some wr.heap.size : Option Nat) ≠ some (wr.heap.size + 1) := by simp
        have nB : (some (wr.heap.size + 1) : Option Nat) ≠ some wr.heap.size := by simp
        have sA : wr.heap.size ≤ ((wr.alloc (.cells #[] 3)).alloc (.cells #[.int .i64 x] 3)).heap.size := bA.size
        have sB : wr.heap.size ≤ ((wr.alloc (.cells #[.int .i64 x] 3)).alloc (.cells #[] 3)).heap.size := bB.size
        have sC : wr.heap.size ≤ (wr.alloc (.cells #[] 3)).heap.size := bC.size
        go_region_law (first
          | (refine step_appAny (v := .slice (some ⟨wr.heap.size, 0, none⟩) 0 0) rfl _ _ stI rfl rfl ho1 rfl hll (hrd.keep fun p hp => bC.cell hp) N0.out (ints_one _) (by omega) sC ?_; intro v3 w3 own3 g3 at3; have b3 := below_ap2 bC ho1 g3 rfl rfl rfl rfl sC; have z3 := b3.size)
          | (refine step_appAny (v := .slice (some ⟨wr.heap.size, 0, none⟩) 0 0) rfl _ _ stI rfl rfl (ho1.alloc (.cells #[.int .i64 x] 3)) rfl hll (hrd.keep fun p hp => bA.cell hp) N0.out (ints_one _) (by omega) sA ?_; intro v3 w3 own3 g3 at3; have b3 := below_ap2 bA (ho1.alloc _) g3 rfl rfl rfl rfl sA; have z3 := b3.size; have L3 := lit_kept lA g3 nA rfl)
          | (refine step_appAny (v := .slice (some ⟨wr.heap.size + 1, 0, none⟩) 0 0) rfl _ _ stI rfl rfl ho3 rfl hll (hrd.keep fun p hp => bB.cell hp) N0.out (ints_one _) (by omega) sB ?_; intro v3 w3 own3 g3 at3; have b3 := below_ap2 bB ho3 g3 rfl rfl rfl rfl sB; have z3 := b3.size; have L3 := lit_kept lB g3 nB rfl)
          | (refine step_appAny (v := .slice (some ⟨wr.heap.size, 0, none⟩) 0 0) rfl _ _ stI rfl rfl (ho1.alloc (.cells #[.int .i64 x] 3)) rfl (news := [.int .i64 x]) rfl (lit_kept lA (grown_refl _ none) (by simp) rfl) (fun h => by cases h) (ints_one [x]) (by omega) sA ?_; intro v4 w4 own4 g4 at4; have b4 := below_ap2 bA (ho1.alloc _) g4 rfl rfl rfl rfl sA; have z4 := b4.size)
          | (refine step_appAny (v := .slice (some ⟨wr.heap.size + 1, 0, none⟩) 0 0) rfl _ _ stI rfl rfl ho3 rfl (news := [.int .i64 x]) rfl (lit_kept lB (grown_refl _ none) (by simp) rfl) (fun h => by cases h) (ints_one [x]) (by omega) sB ?_; intro v4 w4 own4 g4 at4; have b4 := below_ap2 bB ho3 g4 rfl rfl rfl rfl sB; have z4 := b4.size)
          | (refine step_appAny (v := v3) rfl _ _ stI rfl rfl (own3.alloc _) rfl (news := [.int .i64 x]) rfl (Rd.of_own (own_new w3 #[.int .i64 x] 3 1 1 (by decide) rfl)) (fun h => by cases h) (ints_one [x]) (by omega) (by simp; omega) ?_; intro v4 w4 own4 g4 at4; have b4 := below_ap1 b3 own3 g4; have z4 := b4.size)
          | (refine step_appAny (v := v3) rfl _ _ stI rfl rfl own3 rfl (news := [.int .i64 x]) rfl L3 (fun h => by cases h) (ints_one [x]) (by omega) (by omega) ?_; intro v4 w4 own4 g4 at4; have b4 := below_ap2 b3 own3 g4; have z4 := b4.size)
          | (refine step_appAny (v := v4) rfl _ _ stI rfl rfl own4 rfl hl2 (hrd2.keep fun p hp => b4.cell hp) (by intro hh; first | rfl | (cases hh; done) | omega) on3 (by omega) z4 ?_; intro v5 w5 own5 g5 at5; have b5 := below_ap2 b4 own4 g5; have z5 := b5.size))
        all_goals go_wp2_with fail
        all_goals go_ret
        all_goals refine ⟨_, rfl, .inr ?_, below_step1 b5 hbel⟩
        all_goals (rw [HA.out]; refine own_cast (own_base own5 hzz) ?_ ?_)
        all_goals (first | (simp; done) | (have := HN.out; simp; omega))
      · obtain ⟨b, off, z, rfl, hb, hz1, c0⟩ := RowI.at1 (hr.to hbel) (show 0 < k by omega)
        clear hz1 c0
        have hrd := rdI_take (hr.to hbel) (Nat.le_refl k)
        have N0 : Hid (some (⟨b, off, none⟩ : Addr) = none → c = 0) := fun h => by cases h
        by_cases hck : c = k
        · subst hck
          have hrd2 : Rd wr wr.heap.size (some ⟨b, off, none⟩) ([] : List Value) := fun h => absurd rfl h
          go_wp2_with fail
          have ho1 := own_new wr #[] 3 1 0 (by decide) rfl
          have ho3 : ((wr.alloc (.cells #[.int .i64 x] 3)).alloc (.cells #[] 3)).ownsRow wr.heap.size 3 1 (.slice (some ⟨wr.heap.size + 1, 0, none⟩) 0 0) 0 [] := by
            have h := own_base (own_new (wr.alloc (.cells #[.int .i64 x] 3)) #[] 3 1 0 (by decide) rfl) (base' := wr.heap.size) (by simp)
            simpa using h
          have bC := (Below.refl wr.heap.size wr).alloc (Nat.le_refl _) (.cells #[] 3)
          have bA := bC.alloc (by simp) (.cells #[.int .i64 x] 3)
          have bB := ((Below.refl wr.heap.size wr).alloc (Nat.le_refl _) (.cells #[.int .i64 x] 3)).alloc (by simp) (.cells #[] 3)
          have lA : ((wr.alloc (.cells #[] 3)).alloc (.cells #[.int .i64 x] 3)).heap[wr.heap.size + 1]? = some (.cells #[.int .i64 x] 3 (0, 0)) := by
            have h := heap_alloc_new (wr.alloc (.cells #[] 3)) (.cells #[.int .i64 x] 3)
            simpa using h
          have lB : ((wr.alloc (.cells #[.int .i64 x] 3)).alloc (.cells #[] 3)).heap[wr.heap.size]? = some (.cells #[.int .i64 x] 3 (0, 0)) := (Below.heap_alloc _ _ _ (by simp)).trans (heap_alloc_new wr (.cells #[.int .i64 x] 3))
          have nA : (some wr.heap.size : Option Nat) ≠ some (wr.heap.size + 1) := by simp
          have nB : (some (wr.heap.size + 1) : Option Nat) ≠ some wr.heap.size := by simp
          have sA : wr.heap.size ≤ ((wr.alloc (.cells #[] 3)).alloc (.cells #[.int .i64 x] 3)).heap.size := bA.size
          have sB : wr.heap.size ≤ ((wr.alloc (.cells #[.int .i64 x] 3)).alloc (.cells #[] 3)).heap.size := bB.size
          have sC : wr.heap.size ≤ (wr.alloc (.cells #[] 3)).heap.size := bC.size
          go_region_law (first
            | (refine step_appAny (v := .slice (some ⟨wr.heap.size, 0, none⟩) 0 0) rfl _ _ stI rfl rfl ho1 rfl hll (hrd.keep fun p hp => bC.cell hp) N0.out (ints_one _) (by omega) sC ?_; intro v3 w3 own3 g3 at3; have b3 := below_ap2 bC ho1 g3 rfl rfl rfl rfl sC; have z3 := b3.size)
            | (refine step_appAny (v := .slice (some ⟨wr.heap.size, 0, none⟩) 0 0) rfl _ _ stI rfl rfl (ho1.alloc (.cells #[.int .i64 x] 3)) rfl hll (hrd.keep fun p hp => bA.cell hp) N0.out (ints_one _) (by omega) sA ?_; intro v3 w3 own3 g3 at3; have b3 := below_ap2 bA (ho1.alloc _) g3 rfl rfl rfl rfl sA; have z3 := b3.size; have L3 := lit_kept lA g3 nA rfl)
            | (refine step_appAny (v := .slice (some ⟨wr.heap.size + 1, 0, none⟩) 0 0) rfl _ _ stI rfl rfl ho3 rfl hll (hrd.keep fun p hp => bB.cell hp) N0.out (ints_one _) (by omega) sB ?_; intro v3 w3 own3 g3 at3; have b3 := below_ap2 bB ho3 g3 rfl rfl rfl rfl sB; have z3 := b3.size; have L3 := lit_kept lB g3 nB rfl)
            | (refine step_appAny (v := v3) rfl _ _ stI rfl rfl (own3.alloc _) rfl (news := [.int .i64 x]) rfl (Rd.of_own (own_new w3 #[.int .i64 x] 3 1 1 (by decide) rfl)) (fun h => by cases h) (ints_one [x]) (by omega) (by simp; omega) ?_; intro v4 w4 own4 g4 at4; have b4 := below_ap1 b3 own3 g4; have z4 := b4.size)
            | (refine step_appAny (v := v3) rfl _ _ stI rfl rfl own3 rfl (news := [.int .i64 x]) rfl L3 (fun h => by cases h) (ints_one [x]) (by omega) (by omega) ?_; intro v4 w4 own4 g4 at4; have b4 := below_ap2 b3 own3 g4; have z4 := b4.size)
            | (refine step_appAny (v := v4) rfl _ _ stI rfl rfl own4 rfl hl2 (hrd2.keep fun p hp => b4.cell hp) (by intro hh; first | rfl | (cases hh; done) | omega) on3 (by omega) z4 ?_; intro v5 w5 own5 g5 at5; have b5 := below_ap2 b4 own4 g5; have z5 := b5.size))
          all_goals go_wp2_with fail
          all_goals go_ret
          all_goals refine ⟨_, rfl, .inr ?_, below_step1 b5 hbel⟩
          all_goals (rw [HA.out]; refine own_cast (own_base own5 hzz) ?_ ?_)
          all_goals (first | (simp; done) | (have := HN.out; simp; omega))
        · have hrd2 : Rd wr wr.heap.size (some ⟨b, off + k, none⟩) ([] : List Value) := fun h => absurd rfl h
          go_wp2_with fail
          have ho1 := own_new wr #[] 3 1 0 (by decide) rfl
          have ho3 : ((wr.alloc (.cells #[.int .i64 x] 3)).alloc (.cells #[] 3)).ownsRow wr.heap.size 3 1 (.slice (some ⟨wr.heap.size + 1, 0, none⟩) 0 0) 0 [] := by
            have h := own_base (own_new (wr.alloc (.cells #[.int .i64 x] 3)) #[] 3 1 0 (by decide) rfl) (base' := wr.heap.size) (by simp)
            simpa using h
          have bC := (Below.refl wr.heap.size wr).alloc (Nat.le_refl _) (.cells #[] 3)
          have bA := bC.alloc (by simp) (.cells #[.int .i64 x] 3)
          have bB := ((Below.refl wr.heap.size wr).alloc (Nat.le_refl _) (.cells #[.int .i64 x] 3)).alloc (by simp) (.cells #[] 3)
          have lA : ((wr.alloc (.cells #[] 3)).alloc (.cells #[.int .i64 x] 3)).heap[wr.heap.size + 1]? = some (.cells #[.int .i64 x] 3 (0, 0)) := by
            have h := heap_alloc_new (wr.alloc (.cells #[] 3)) (.cells #[.int .i64 x] 3)
            simpa using h
          have lB : ((wr.alloc (.cells #[.int .i64 x] 3)).alloc (.cells #[] 3)).heap[wr.heap.size]? = some (.cells #[.int .i64 x] 3 (0, 0)) := (Below.heap_alloc _ _ _ (by simp)).trans (heap_alloc_new wr (.cells #[.int .i64 x] 3))
          have nA : (some wr.heap.size : Option Nat) ≠ some (wr.heap.size + 1) := by simp
          have nB : (some (wr.heap.size + 1) : Option Nat) ≠ some wr.heap.size := by simp
          have sA : wr.heap.size ≤ ((wr.alloc (.cells #[] 3)).alloc (.cells #[.int .i64 x] 3)).heap.size := bA.size
          have sB : wr.heap.size ≤ ((wr.alloc (.cells #[.int .i64 x] 3)).alloc (.cells #[] 3)).heap.size := bB.size
          have sC : wr.heap.size ≤ (wr.alloc (.cells #[] 3)).heap.size := bC.size
          go_region_law (first
            | (refine step_appAny (v := .slice (some ⟨wr.heap.size, 0, none⟩) 0 0) rfl _ _ stI rfl rfl ho1 rfl hll (hrd.keep fun p hp => bC.cell hp) N0.out (ints_one _) (by omega) sC ?_; intro v3 w3 own3 g3 at3; have b3 := below_ap2 bC ho1 g3 rfl rfl rfl rfl sC; have z3 := b3.size)
            | (refine step_appAny (v := .slice (some ⟨wr.heap.size, 0, none⟩) 0 0) rfl _ _ stI rfl rfl (ho1.alloc (.cells #[.int .i64 x] 3)) rfl hll (hrd.keep fun p hp => bA.cell hp) N0.out (ints_one _) (by omega) sA ?_; intro v3 w3 own3 g3 at3; have b3 := below_ap2 bA (ho1.alloc _) g3 rfl rfl rfl rfl sA; have z3 := b3.size; have L3 := lit_kept lA g3 nA rfl)
            | (refine step_appAny (v := .slice (some ⟨wr.heap.size + 1, 0, none⟩) 0 0) rfl _ _ stI rfl rfl ho3 rfl hll (hrd.keep fun p hp => bB.cell hp) N0.out (ints_one _) (by omega) sB ?_; intro v3 w3 own3 g3 at3; have b3 := below_ap2 bB ho3 g3 rfl rfl rfl rfl sB; have z3 := b3.size; have L3 := lit_kept lB g3 nB rfl)
            | (refine step_appAny (v := v3) rfl _ _ stI rfl rfl (own3.alloc _) rfl (news := [.int .i64 x]) rfl (Rd.of_own (own_new w3 #[.int .i64 x] 3 1 1 (by decide) rfl)) (fun h => by cases h) (ints_one [x]) (by omega) (by simp; omega) ?_; intro v4 w4 own4 g4 at4; have b4 := below_ap1 b3 own3 g4; have z4 := b4.size)
            | (refine step_appAny (v := v3) rfl _ _ stI rfl rfl own3 rfl (news := [.int .i64 x]) rfl L3 (fun h => by cases h) (ints_one [x]) (by omega) (by omega) ?_; intro v4 w4 own4 g4 at4; have b4 := below_ap2 b3 own3 g4; have z4 := b4.size)
            | (refine step_appAny (v := v4) rfl _ _ stI rfl rfl own4 rfl hl2 (hrd2.keep fun p hp => b4.cell hp) (by intro hh; first | rfl | (cases hh; done) | omega) on3 (by omega) z4 ?_; intro v5 w5 own5 g5 at5; have b5 := below_ap2 b4 own4 g5; have z5 := b5.size))
          all_goals go_wp2_with fail
          all_goals go_ret
          all_goals refine ⟨_, rfl, .inr ?_, below_step1 b5 hbel⟩
          all_goals (rw [HA.out]; refine own_cast (own_base own5 hzz) ?_ ?_)
          all_goals (first | (simp; done) | (have := HN.out; simp; omega))
end Go.Proofs.YtojcabnjodfdmaaGreatDoor
