/- The texts of formulas: ParseExpr answers alike with two pairs of parentheses around. Plain Lean, no program in sight. Contracts of Join, of the program and of the reference, and of the reference's Same where both lists are the same: at most 100000 tokens with texts of at most 100000 bytes. -/
import Derived.Test.YtpnfbehbheddeaaGreatDoorBn07
import Derived.Test.YtpnfbehbheddeaaGreatDoorBn22
import Derived.Test.YtpnfbehbheddeaaGreatDoorBn18
import Derived.Test.YtpnfbehbheddeaaGreatDoorBn00
import Derived.Laws.Concat
namespace Go.Proofs.YtpnfbehbheddeaaGreatDoor
set_option maxRecDepth 100000
set_option maxHeartbeats 8000000
set_option linter.unusedVariables false
set_option linter.unusedSimpArgs false
def aftF (o : Option UInt8) : Bool := match o with
  | none => true
  | some c => [32, 41, 45, 47, 60, 44].contains c
theorem aftF_mem {o : Option UInt8} (h : aftF o = true) : o = none ∨ o = some 32 ∨ o = some 41 ∨ o = some 45 ∨ o = some 47 ∨ o = some 60 ∨ o = some 44 := by
  cases o with
  | none => exact .inl rfl
  | some c => unfold aftF at h; simpa using h
theorem aftF_N (o : Option UInt8) (h : aftF o = true) : afterN o = true := by
  rcases aftF_mem h with rfl | rfl | rfl | rfl | rfl | rfl | rfl <;> decide
theorem aftF_D (o : Option UInt8) (h : aftF o = true) : afterD o = true := by
  rcases aftF_mem h with rfl | rfl | rfl | rfl | rfl | rfl | rfl <;> decide
def sgT (w : Bs) : Tk := ⟨4, w, 0, 0⟩
def nmT (w : Bs) : Tk := ⟨1, w, 0, 0⟩
def nuT (n : Int) : Tk := ⟨2, [], n, 0⟩
structure Gl (g : Bs) (tg : List Tk) (j : Nat) : Prop where
  rd : RdF g tg noEq
  ne : g ≠ []
  hd : noEq g.head? = true
  run : ∀ n, runP n tg = some (n + j)
  nm : ∀ t ∈ tg, t.kind = 1 → parW t = 0
  tl : tg.length ≤ g.length
structure Fq (s : Bs) (ts : List Tk) : Prop where
  rd : RdF s ts aftF
  ne : s ≠ []
  hd : noEq s.head? = true
  run : ∀ n, runP n ts = some n
  nm : ∀ t ∈ ts, t.kind = 1 → parW t = 0
  tl : ts.length ≤ s.length
theorem nm_app {a b : List Tk} (h1 : ∀ t ∈ a, t.kind = 1 → parW t = 0) (h2 : ∀ t ∈ b, t.kind = 1 → parW t = 0) : ∀ t ∈ a ++ b, t.kind = 1 → parW t = 0 := fun t ht => by
  rcases List.mem_append.1 ht with h | h
  · exact h1 t h
  · exact h2 t h
theorem head_app {a b : Bs} (h : a ≠ []) : (a ++ b).head? = a.head? := by
  cases a with
  | nil => exact absurd rfl h
  | cons c a => rfl
theorem anyR_all {A : Option UInt8 → Bool} {s : Bs} {ts : List Tk} (h : RdF s ts anyR) : RdF s ts A := h.weak fun _ _ => rfl
theorem rd_close : RdF [41] [sgT [41]] anyR := rd_one (by decide) (by decide) (by decide) (by decide) (by decide) (by decide) (by unfold wsB; decide)
theorem rd_open : RdF [40] [sgT [40]] anyR := rd_one (by decide) (by decide) (by decide) (by decide) (by decide) (by decide) (by unfold wsB; decide)
theorem rd_minus : RdF [45] [sgT [45]] anyR := rd_one (by decide) (by decide) (by decide) (by decide) (by decide) (by decide) (by unfold wsB; decide)
theorem rd_slash : RdF [47] [sgT [47]] anyR := rd_one (by decide) (by decide) (by decide) (by decide) (by decide) (by decide) (by unfold wsB; decide)
theorem rd_star : RdF [42] [sgT [42]] anyR := rd_one (by decide) (by decide) (by decide) (by decide) (by decide) (by decide) (by unfold wsB; decide)
theorem rd_equal : RdF [61] [sgT [61]] anyR := rd_one (by decide) (by decide) (by decide) (by decide) (by decide) (by decide) (by unfold wsB; decide)
theorem rd_comma : RdF [44] [sgT [44]] anyR := rd_one (by decide) (by decide) (by decide) (by decide) (by decide) (by decide) (by unfold wsB; decide)
theorem rd_dot : RdF [46] [sgT [46]] anyR := rd_one (by decide) (by decide) (by decide) (by decide) (by decide) (by decide) (by unfold wsB; decide)
theorem rd_sp : RdF [32] [] anyR := RdF.sp
section
variable {s s2 g g2 : Bs} {ts ts2 tg tg2 : List Tk}
theorem Fq.pre (hg : Gl g tg 0) (h : Fq s ts) : Fq (g ++ s) (tg ++ ts) :=
  ⟨hg.rd.app h.rd h.ne h.hd, by simp [hg.ne], by rw [head_app hg.ne]; exact hg.hd, fun n => by rw [runP_app, hg.run]; exact h.run n, nm_app hg.nm h.nm, by have := hg.tl; have := h.tl; simp only [List.length_append]; omega⟩
theorem Fq.wrap (hg : Gl g tg 1) (h : Fq s ts) : Fq (g ++ (s ++ [41])) (tg ++ (ts ++ [sgT [41]])) :=
  ⟨hg.rd.app (h.rd.app (anyR_all rd_close) (by simp) rfl) (by simp) (by rw [head_app h.ne]; exact h.hd), by simp [hg.ne], by rw [head_app hg.ne]; exact hg.hd, fun n => by rw [runP_app, hg.run]; show runP (n + 1) (ts ++ [sgT [41]]) = some n; rw [runP_app, h.run]; rfl, nm_app hg.nm (nm_app h.nm (by decide)), by have := hg.tl; have := h.tl; simp only [List.length_append, List.length_cons, List.length_nil]; omega⟩
theorem Fq.bin (h : Fq s ts) (hg : Gl g tg 0) (ha : aftF g.head? = true) (h2 : Fq s2 ts2) : Fq (s ++ (g ++ s2)) (ts ++ (tg ++ ts2)) := by
  have hp := Fq.pre hg h2
  exact ⟨h.rd.app hp.rd hp.ne (by rw [head_app hg.ne]; exact ha), by simp [h.ne], by rw [head_app h.ne]; exact h.hd, fun n => by rw [runP_app, h.run]; exact hp.run n, nm_app h.nm hp.nm, by have := h.tl; have := hp.tl; simp only [List.length_append] at *; omega⟩
theorem Gl.of_rd {j : Nat} {A : Option UInt8 → Bool} (h : RdF g tg A) (hA : ∀ o, noEq o = true → A o = true) (ne : g ≠ []) (hd : noEq g.head? = true) (run : ∀ n, runP n tg = some (n + j)) (nm : ∀ t ∈ tg, t.kind = 1 → parW t = 0) (tl : tg.length ≤ g.length) : Gl g tg j := ⟨h.weak hA, ne, hd, run, nm, tl⟩
theorem rd_fn {w : Bs} (h : isNameB w = true) : RdF (w ++ [40]) ([nmT w] ++ [sgT [40]]) anyR := (rd_name h).app rd_open (by simp) rfl
end
section
theorem gl_not : Gl (wNot ++ [32]) ([nmT wNot] ++ []) 0 := Gl.of_rd ((rd_name (w := wNot) (by decide)).app rd_sp (by simp) rfl) (fun _ _ => rfl) (by decide) (by decide) (fun _ => rfl) (by decide) (by decide)
theorem gl_neg : Gl [45] [sgT [45]] 0 := Gl.of_rd rd_minus (fun _ _ => rfl) (by decide) (by decide) (fun _ => rfl) (by decide) (by decide)
theorem gl_open : Gl [40] [sgT [40]] 1 := Gl.of_rd rd_open (fun _ _ => rfl) (by decide) (by decide) (fun _ => rfl) (by decide) (by decide)
theorem gl_fn {w : Bs} (h : isNameB w = true) (ne : w ≠ [40] ∧ w ≠ [41]) (hd : noEq w.head? = true) : Gl (w ++ [40]) ([nmT w] ++ [sgT [40]]) 1 := by
  have hw : w ≠ [] := fun e => by rw [e] at h; revert h; decide
  have hp : parW (nmT w) = 0 := by unfold parW nmT; simp [ne.1, ne.2]
  refine Gl.of_rd (rd_fn h) (fun _ _ => rfl) (by simp) (by rw [head_app hw]; exact hd) (fun n => ?_) (nm_app (fun t ht _ => by rw [List.mem_singleton.1 ht]; exact hp) (by decide)) ?_
  · rw [runP_app]
    have : runP n [nmT w] = some n := by simp [runP, stepPar, hp]
    rw [this]
    rfl
  · have : 1 ≤ w.length := by cases w with
      | nil => exact absurd rfl hw
      | cons _ _ => simp
    simp only [List.length_append, List.length_cons, List.length_nil]
    omega
theorem gl_comma : Gl ([44] ++ [32]) ([sgT [44]] ++ []) 0 := Gl.of_rd (rd_comma.app rd_sp (by simp) rfl) (fun _ _ => rfl) (by decide) (by decide) (fun _ => rfl) (by decide) (by decide)
theorem gl_sp {w : Bs} {t : List Tk} {A : Option UInt8 → Bool} (h : RdF w t A) (hA : A (some 32) = true) (hw : w ≠ []) (run : ∀ n, runP n t = some n) (nm : ∀ t' ∈ t, t'.kind = 1 → parW t' = 0) (tl : t.length ≤ w.length) : Gl ([32] ++ (w ++ [32])) ([] ++ (t ++ [])) 0 :=
  Gl.of_rd (rd_sp.app (h.app rd_sp (by simp) hA) (by simp) rfl) (fun _ _ => rfl) (by simp) rfl (fun n => by rw [List.nil_append, List.append_nil]; exact run n) (by rw [List.nil_append, List.append_nil]; exact nm) (by simp; omega)
theorem gl_less : Gl [60] [sgT [60]] 0 := Gl.of_rd rd_less (fun _ h => h) (by decide) (by decide) (fun _ => rfl) (by decide) (by decide)
theorem gl_slash : Gl [47] [sgT [47]] 0 := Gl.of_rd rd_slash (fun _ _ => rfl) (by decide) (by decide) (fun _ => rfl) (by decide) (by decide)
end
def opTs : List Bs := [[32, 43, 32], [45], [32, 42, 32], [47], [32, 43, 43, 32], [32, 61, 32], [60], [32, 60, 61, 32], [32, 97, 110, 100, 32], [32, 111, 114, 32]]
theorem op_gl : ∀ g ∈ opTs, (∃ tg, Gl g tg 0) ∧ aftF g.head? = true := by
  intro g hg
  unfold opTs at hg
  simp only [List.mem_cons, List.not_mem_nil, or_false] at hg
  rcases hg with rfl | rfl | rfl | rfl | rfl | rfl | rfl | rfl | rfl | rfl
  · exact ⟨⟨_, gl_sp rd_plus rfl (by decide) (fun _ => rfl) (by decide) (by decide)⟩, rfl⟩
  · exact ⟨⟨_, gl_neg⟩, rfl⟩
  · exact ⟨⟨_, gl_sp rd_star rfl (by decide) (fun _ => rfl) (by decide) (by decide)⟩, rfl⟩
  · exact ⟨⟨_, gl_slash⟩, rfl⟩
  · exact ⟨⟨_, gl_sp (rd_two (.inl rfl)) rfl (by decide) (fun _ => rfl) (by decide) (by decide)⟩, rfl⟩
  · exact ⟨⟨_, gl_sp rd_equal rfl (by decide) (fun _ => rfl) (by decide) (by decide)⟩, rfl⟩
  · exact ⟨⟨_, gl_less⟩, rfl⟩
  · exact ⟨⟨_, gl_sp (rd_two (.inr rfl)) rfl (by decide) (fun _ => rfl) (by decide) (by decide)⟩, rfl⟩
  · exact ⟨⟨_, gl_sp (rd_name (w := wAnd) (by decide)) rfl (by decide) (fun _ => rfl) (by decide) (by decide)⟩, rfl⟩
  · exact ⟨⟨_, gl_sp (rd_name (w := wOr) (by decide)) rfl (by decide) (fun _ => rfl) (by decide) (by decide)⟩, rfl⟩
def fnTs : List Bs := [[99, 111, 97, 108, 101, 115, 99, 101, 40], [112, 114, 101, 102, 105, 120, 40], [105, 102, 40, 97, 44, 32], [105, 115, 110, 117, 108, 108, 40]]
theorem fn_gl : ∀ g ∈ fnTs, ∃ tg, Gl g tg 1 := by
  intro g hg
  unfold fnTs at hg
  simp only [List.mem_cons, List.not_mem_nil, or_false] at hg
  rcases hg with rfl | rfl | rfl | rfl
  · exact ⟨_, gl_fn (w := [99, 111, 97, 108, 101, 115, 99, 101]) (by decide) (by decide) (by decide)⟩
  · exact ⟨_, gl_fn (w := [112, 114, 101, 102, 105, 120]) (by decide) (by decide) (by decide)⟩
  · exact ⟨_, Gl.of_rd ((rd_fn (w := [105, 102]) (by decide)).app ((rd_name (w := [97]) (by decide)).app (rd_comma.app rd_sp (by simp) rfl) (by simp) rfl) (by simp) rfl) (fun _ _ => rfl) (by decide) (by decide) (fun _ => rfl) (by decide) (by decide)⟩
  · exact ⟨_, gl_fn (w := [105, 115, 110, 117, 108, 108]) (by decide) (by decide) (by decide)⟩
def leafTs : List Bs := [[97], [98], [99], [49], [45, 32, 50], [45, 51], [34, 120, 34], [108, 101, 102, 116, 46, 97], [114, 105, 103, 104, 116, 46, 98], [48], [97], [99]]
theorem Fq.of_rd {s : Bs} {ts : List Tk} {A : Option UInt8 → Bool} (h : RdF s ts A) (hA : ∀ o, aftF o = true → A o = true) (ne : s ≠ []) (hd : noEq s.head? = true) (run : ∀ n, runP n ts = some n) (nm : ∀ t ∈ ts, t.kind = 1 → parW t = 0) (tl : ts.length ≤ s.length) : Fq s ts := ⟨h.weak hA, ne, hd, run, nm, tl⟩
theorem rd_num (u : Nat) (hu : u ≤ 9) {d : Bs} (hd : Lib.decDigits u = d) : RdF d [nuT u] afterD := by
  rw [← hd]
  exact rd_digit hu
theorem dec_small {u : Nat} (h : u < 10) : Lib.decDigits u = [UInt8.ofNat (48 + u)] := by
  rw [Lib.decDigits]
  simp [h]
theorem leaf_fq : ∀ s ∈ leafTs, ∃ ts, Fq s ts := by
  intro s hs
  unfold leafTs at hs
  simp only [List.mem_cons, List.not_mem_nil, or_false] at hs
  have nm : ∀ w : Bs, isNameB w = true → w ≠ [40] ∧ w ≠ [41] → noEq w.head? = true → ∃ ts, Fq w ts := fun w h ne hd => by
    have hw : w ≠ [] := fun e => by rw [e] at h; revert h; decide
    have hp : parW (nmT w) = 0 := by unfold parW nmT; simp [ne.1, ne.2]
    have hl : 1 ≤ w.length := by cases w with
      | nil => exact absurd rfl hw
      | cons _ _ => simp
    have hr : ∀ n, runP n [nmT w] = some n := fun n => by simp [runP, stepPar, hp]
    exact ⟨_, Fq.of_rd (rd_name h) aftF_N hw hd (fun n => hr n) (fun t ht _ => by rw [List.mem_singleton.1 ht]; exact hp) hl⟩
  rcases hs with rfl | rfl | rfl | rfl | rfl | rfl | rfl | rfl | rfl | rfl | rfl | rfl
  · exact nm _ (by decide) (by decide) (by decide)
  · exact nm _ (by decide) (by decide) (by decide)
  · exact nm _ (by decide) (by decide) (by decide)
  · exact ⟨_, Fq.of_rd (rd_num 1 (by decide) (dec_small (by decide))) aftF_D (by decide) (by decide) (fun _ => rfl) (by decide) (by decide)⟩
  · exact ⟨_, Fq.of_rd (rd_minus.app (rd_sp.app (rd_num 2 (by decide) (dec_small (by decide))) (by decide) rfl) (by decide) rfl) aftF_D (by decide) (by decide) (fun _ => rfl) (by decide) (by decide)⟩
  · exact ⟨_, Fq.of_rd (rd_minus.app (rd_num 3 (by decide) (dec_small (by decide))) (by decide) rfl) aftF_D (by decide) (by decide) (fun _ => rfl) (by decide) (by decide)⟩
  · exact ⟨_, Fq.of_rd (rd_text (t := [120]) (by decide)) (fun _ _ => rfl) (by decide) (by decide) (fun _ => rfl) (by decide) (by decide)⟩
  · exact ⟨_, Fq.of_rd ((rd_name (w := wLeft) (by decide)).app (rd_dot.app (rd_name (w := [97]) (by decide)) (by decide) rfl) (by decide) rfl) aftF_N (by decide) (by decide) (fun _ => rfl) (by decide) (by decide)⟩
  · exact ⟨_, Fq.of_rd ((rd_name (w := wRight) (by decide)).app (rd_dot.app (rd_name (w := [98]) (by decide)) (by decide) rfl) (by decide) rfl) aftF_N (by decide) (by decide) (fun _ => rfl) (by decide) (by decide)⟩
  · exact ⟨_, Fq.of_rd (rd_num 0 (by decide) (dec_small (by decide))) aftF_D (by decide) (by decide) (fun _ => rfl) (by decide) (by decide)⟩
  · exact nm _ (by decide) (by decide) (by decide)
  · exact nm _ (by decide) (by decide) (by decide)
inductive Fml : Nat → Bs → Prop
  | leaf {d : Nat} {s : Bs} (h : s ∈ leafTs) : Fml d s
  | par {d : Nat} {s : Bs} (h : Fml d s) : Fml (d + 1) ([40] ++ (s ++ [41]))
  | no {d : Nat} {s : Bs} (h : Fml d s) : Fml (d + 1) ((wNot ++ [32]) ++ s)
  | neg {d : Nat} {s : Bs} (h : Fml d s) : Fml (d + 1) ([45] ++ s)
  | len {d : Nat} {s : Bs} (h : Fml d s) : Fml (d + 1) (([108, 101, 110, 103, 116, 104] ++ [40]) ++ (s ++ [41]))
  | fn {d : Nat} {g s s2 : Bs} (hg : g ∈ fnTs) (h : Fml d s) (h2 : Fml d s2) : Fml (d + 1) (g ++ ((s ++ (([44] ++ [32]) ++ s2)) ++ [41]))
  | bin {d : Nat} {g s s2 : Bs} (hg : g ∈ opTs) (h : Fml d s) (h2 : Fml d s2) : Fml (d + 1) (s ++ (g ++ s2))
theorem Fml.fq {d : Nat} {s : Bs} (h : Fml d s) : ∃ ts, Fq s ts := by
  induction h with
  | leaf h => exact leaf_fq _ h
  | par _ ih => obtain ⟨ts, h⟩ := ih; exact ⟨_, Fq.wrap gl_open h⟩
  | no _ ih => obtain ⟨ts, h⟩ := ih; exact ⟨_, Fq.pre gl_not h⟩
  | neg _ ih => obtain ⟨ts, h⟩ := ih; exact ⟨_, Fq.pre gl_neg h⟩
  | len _ ih => obtain ⟨ts, h⟩ := ih; exact ⟨_, Fq.wrap (gl_fn (by decide) (by decide) (by decide)) h⟩
  | fn hg _ _ ih ih2 =>
    obtain ⟨ts, h⟩ := ih
    obtain ⟨ts2, h2⟩ := ih2
    obtain ⟨tg, h3⟩ := fn_gl _ hg
    exact ⟨_, Fq.wrap h3 (Fq.bin h gl_comma rfl h2)⟩
  | bin hg _ _ ih ih2 =>
    obtain ⟨ts, h⟩ := ih
    obtain ⟨ts2, h2⟩ := ih2
    obtain ⟨⟨tg, h3⟩, h4⟩ := op_gl _ hg
    exact ⟨_, Fq.bin h h3 h4 h2⟩
def lenF : Nat → Nat
  | 0 => 10
  | d + 1 => 2 * lenF d + 16
theorem lenF_pos (d : Nat) : 10 ≤ lenF d := by
  induction d with
  | zero => exact Nat.le_refl _
  | succ d ih => rw [lenF]; omega
theorem Fml.short {d : Nat} {s : Bs} (h : Fml d s) : s.length ≤ lenF d := by
  have hop : ∀ g ∈ opTs, g.length ≤ 8 := by decide
  have hfn : ∀ g ∈ fnTs, g.length ≤ 10 := by decide
  have hlf : ∀ g ∈ leafTs, g.length ≤ 10 := by decide
  induction h with
  | leaf h => exact Nat.le_trans (hlf _ h) (lenF_pos _)
  | par _ ih => rw [lenF]; simp only [List.length_append, List.length_cons, List.length_nil]; omega
  | no _ ih => rw [lenF]; simp only [List.length_append, List.length_cons, List.length_nil, wNot]; omega
  | neg _ ih => rw [lenF]; simp only [List.length_append, List.length_cons, List.length_nil]; omega
  | len _ ih => rw [lenF]; simp only [List.length_append, List.length_cons, List.length_nil]; omega
  | fn hg _ _ ih ih2 => have := hfn _ hg; rw [lenF]; simp only [List.length_append, List.length_cons, List.length_nil]; omega
  | bin hg _ _ ih ih2 => have := hop _ hg; rw [lenF]; simp only [List.length_append]; omega
theorem scan_all {s : Bs} {ts : List Tk} {A : Option UInt8 → Bool} (h : RdF s ts A) (hA : A none = true) (hl : s.length ≤ 32768) (ht : ts.length ≤ 4096) : ∃ ts', sameTk ts' ts ∧ scanO s = (ts', 0, 0) := by
  obtain ⟨ts', h1, h2⟩ := h s 0 [] (scanO s) [] (by simp) hA (ScanTo.start hl) (by simpa using ht)
  exact ⟨ts', h1, by have := h2.done (by omega); simpa using this⟩
theorem parW_same {t t' : Tk} (h : t'.at0 = t.at0) : parW t' = parW t := by
  have h1 : t'.kind = t.kind := (congrArg Tk.kind h : t'.at0.kind = t.at0.kind)
  have h2 : t'.text = t.text := (congrArg Tk.text h : t'.at0.text = t.at0.text)
  unfold parW
  rw [h1, h2]
theorem sameTk_get {l m : List Tk} (h : sameTk l m) {j : Nat} {t : Tk} (ht : m[j]? = some t) : ∃ t', l[j]? = some t' ∧ t'.at0 = t.at0 := by
  have h1 : (l.map Tk.at0)[j]? = (m.map Tk.at0)[j]? := by rw [h]
  rw [List.getElem?_map, List.getElem?_map, ht] at h1
  cases hq : l[j]? with
  | none => rw [hq] at h1; simp at h1
  | some t' => rw [hq] at h1; exact ⟨t', rfl, by simpa using h1⟩
theorem at0_three {t t' : Tk} (h : t'.at0 = t.at0) : t'.kind = t.kind ∧ t'.text = t.text ∧ t'.int = t.int :=
  ⟨(congrArg Tk.kind h : t'.at0.kind = t.at0.kind), (congrArg Tk.text h : t'.at0.text = t.at0.text), (congrArg Tk.int h : t'.at0.int = t.at0.int)⟩
theorem formula_law {d : Nat} {s : Bs} (hf : Fml d s) (hl : lenF d ≤ 4000) (left right : List Bs) :
    (pexprO ([40, 32, 40, 32] ++ s ++ [32, 41, 32, 41]) left right).2.2 = (pexprO s left right).2.2 ∧ ((pexprO s left right).2.2 = 0 → (pexprO ([40, 32, 40, 32] ++ s ++ [32, 41, 32, 41]) left right).1 = (pexprO s left right).1) := by
  have hs := hf.short
  obtain ⟨ts, h⟩ := hf.fq
  have htl := h.tl
  obtain ⟨ts1, a1, a2⟩ := scan_all h.rd rfl (by omega) (by omega)
  have hR : RdF ([40, 32, 40, 32] ++ s ++ [32, 41, 32, 41]) ([sgT [40], sgT [40]] ++ ts ++ [sgT [41], sgT [41]]) anyR := by
    have h1 : RdF [40, 32, 40, 32] [sgT [40], sgT [40]] anyR := rd_open.app (rd_sp.app (rd_open.app rd_sp (by simp) rfl) (by simp) rfl) (by simp) rfl
    have h2 : RdF [32, 41, 32, 41] [sgT [41], sgT [41]] anyR := rd_sp.app (rd_close.app (rd_sp.app rd_close (by simp) rfl) (by simp) rfl) (by simp) rfl
    exact (h1.app h.rd h.ne rfl).app h2 (by simp) rfl
  obtain ⟨ts2, b1, b2⟩ := scan_all hR rfl (by simp only [List.length_append, List.length_cons, List.length_nil]; omega) (by simp only [List.length_append, List.length_cons, List.length_nil]; omega)
  have l1 := sameTk_length a1
  have l2 := sameTk_length b1
  simp only [List.length_append, List.length_cons, List.length_nil] at l2
  have hbal : ∀ i, bal ts1 i = bal ts i := fun i => by
    unfold bal
    have : ts1.map parW = ts.map parW := by
      refine List.ext_getElem? fun j => ?_
      rw [List.getElem?_map, List.getElem?_map]
      cases hj : ts[j]? with
      | none => rw [List.getElem?_eq_none (by rw [l1]; exact List.getElem?_eq_none_iff.1 hj)]
      | some t =>
        obtain ⟨t', q1, q2⟩ := sameTk_get a1 hj
        rw [q1, Option.map_some, Option.map_some, parW_same q2]
    rw [List.map_take, List.map_take, this]
  obtain ⟨c1, c2⟩ := runP_bal ts 0 0 (h.run 0)
  have hback : ∀ {j : Nat} {t : Tk}, ts1[j]? = some t → ∃ t0, ts[j]? = some t0 ∧ t.at0 = t0.at0 := fun {j t} ht => by
    obtain ⟨t0, q1, q2⟩ := sameTk_get (l := ts) (m := ts1) a1.symm ht
    exact ⟨t0, q1, q2.symm⟩
  have hE : Emb ⟨ts1, (s.length : Int)⟩ ⟨ts2, (([40, 32, 40, 32] ++ s ++ [32, 41, 32, 41] : Bs).length : Int)⟩ 2 := by
    refine ⟨fun j t ht => ?_, fun j t' hj ht' => ?_, by simp only; omega, fun j t ht hk => ?_, by simp only; rw [hbal, l1]; omega⟩
    · obtain ⟨t0, q1, q2⟩ := hback ht
      have : ([sgT [40], sgT [40]] ++ ts ++ [sgT [41], sgT [41]])[j + 2]? = some t0 := by
        rw [List.append_assoc, List.getElem?_append_right (by simp), List.getElem?_append_left (by simp; exact (List.getElem?_eq_some_iff.1 q1).1)]
        simpa using q1
      obtain ⟨t', q3, q4⟩ := sameTk_get b1 this
      exact ⟨t', q3, at0_three (q4.trans q2.symm)⟩
    · simp only at hj ht'
      obtain ⟨t0, q1, q2⟩ := sameTk_get (l := [sgT [40], sgT [40]] ++ ts ++ [sgT [41], sgT [41]]) (m := ts2) b1.symm ht'
      rw [List.append_assoc, List.getElem?_append_right (by simp), List.getElem?_append_right (by simp; omega)] at q1
      have : t0 = sgT [41] := by
        have := List.mem_of_getElem? q1
        simpa using this
      subst this
      obtain ⟨r1, r2, -⟩ := at0_three q2
      exact ⟨r1.symm, r2.symm⟩
    · obtain ⟨t0, q1, q2⟩ := hback ht
      rw [parW_same q2]
      exact h.nm t0 (List.mem_of_getElem? q1) ((at0_three q2).1.symm.trans hk)
  have hA : ∀ (i : Nat) (L : List Tk), (∀ (j : Nat) t, L[j]? = some t → ([sgT [40], sgT [40]] ++ ts ++ [sgT [41], sgT [41]])[i + j]? = some t) → AtW ⟨ts2, (([40, 32, 40, 32] ++ s ++ [32, 41, 32, 41] : Bs).length : Int)⟩ i L := fun i L hL j t hj => by
    obtain ⟨t', q1, q2⟩ := sameTk_get b1 (hL j t hj)
    exact ⟨t', q1, at0_three q2⟩
  have w40 : wdK [40] = sgT [40] := by unfold wdK sgT; rw [if_neg (by decide)]
  have w41 : wdK [41] = sgT [41] := by unfold wdK sgT; rw [if_neg (by decide)]
  have hm := mean_parse (left := left) (right := right) hE (fun i _ => by simp only; rw [hbal]; have := c1 i; omega)
    (hA 0 _ fun j t hj => by
      rw [w40] at hj
      rw [Nat.zero_add, List.append_assoc, List.getElem?_append_left (List.getElem?_eq_some_iff.1 hj).1]
      exact hj)
    (hA _ _ fun j t hj => by
      rw [w41] at hj
      simp only
      rw [List.getElem?_append_right (by simp; omega)]
      rw [show ts1.length + 2 + j - ([sgT [40], sgT [40]] ++ ts).length = j by simp; omega]
      exact hj)
    (by simp only; omega)
  unfold pexprO
  rw [a2, b2]
  simpa using hm
open Go.RowKit
theorem mk_add2 (a b : List UInt8) : (⟨a.toArray⟩ : ByteArray) ++ ⟨b.toArray⟩ = ⟨(a ++ b).toArray⟩ := by simp [ByteArray.mk_append_mk]
end Go.Proofs.YtpnfbehbheddeaaGreatDoor
