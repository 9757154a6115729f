/- Contract of ParseExpr: for every source of at most 2^40 bytes and names of at most 1000000 columns. The variable ErrRange can be read. The declarations of layer 5, as the program reads them, and how it looks up their names: an exact mirror in plain Lean. No program in sight, no condition. Contract of list: elements with commas between them, where the element's contract is known. No condition beyond the state. -/
import Derived.Test.YtpnfbehbheddeaaGreatDoorBn11
import Derived.Test.YtpnfbehbheddeaaGreatDoorBn13
import Derived.Test.YtpnfbehbheddeaaGreatDoorBn16
import Derived.Test.YtpnfbehbheddeaaGreatDoorBn02
import Derived.Test.YtpnfbehbheddeaaGreatDoorBn08
namespace Go.Proofs.YtpnfbehbheddeaaGreatDoor
set_option maxRecDepth 100000
set_option maxHeartbeats 8000000
set_option linter.unusedVariables false
set_option linter.unusedSimpArgs false
open Go.RowKit
def pexprO (l : Bs) (left right : List Bs) : List T × Int × Int := if (scanO l).2.2 ≠ 0 then ([], (scanO l).2.1, (scanO l).2.2) else parseExprP ⟨(scanO l).1, l.length⟩ left right
theorem scan_okN {l : Bs} {toks : List Tk} {k : Nat} (h : scanO l = (toks, k, 0)) (z : Int) : (Src.mk toks z).okN := fun t ht hk => by
  have h1 := (cov_all _ _ _ (scanO_cov h).1 t ht).1
  unfold tokOk at h1
  rw [if_neg (by omega), if_pos hk] at h1
  simpa using h1
theorem idle_ParseExpr (w : World) : CallsD Tryz.prog 17 #[] .returning w fun e u' w' => e = .returned (.tuple #[]) ∧ u' = .returning ∧ w' = w := by
  refine callsD_of_wpS Tryz.func17 rfl fun c₀ cs hu => ?_
  apply wpS_region
  cases c₀
  simp_all [wpOpsS, go_sem, recoverD, Tryz.ntmps17, bodyPostS, results, Tryz.results17]
theorem below_pfr {S : Nat → Prop} {B : Nat} {a w w' : World} (h : Below B a w) (hf : PFr S w w') (hS : ∀ k, S k → B ≤ k) (hB : B ≤ w.heap.size) : Below B a w' :=
  h.trans ⟨hf.os, hf.tape, hf.output, hf.size, fun k hk => hf.block k (by omega) fun hs => by have := hS k hs; omega⟩
def PxPost (w : World) (r : List T × Int × Int) (e : Ending) (w' : World) : Prop := ∃ v, e = .returned (.tuple #[v, .int .i64 r.2.1, .int .i64 r.2.2]) ∧ w'.ownsRow w.heap.size 40 5 v r.1.length (r.1.flatMap T.cells) ∧ Below w.heap.size w w'
def nil21 : Array Value := #[.slice none 0 0, .slice none 0 0, .slice none 0 0, .slice none 0 0, .slice none 0 0, .slice none 0 0, .slice none 0 0, .slice none 0 0, .slice none 0 0, .slice none 0 0, .slice none 0 0, .slice none 0 0, .slice none 0 0, .slice none 0 0, .slice none 0 0, .slice none 0 0, .slice none 0 0, .slice none 0 0, .slice none 0 0, .slice none 0 0, .slice none 0 0]
theorem ps_cells (pb : Nat) (A : Option Addr) (c : Nat) (e : Src) : psC ⟨pb, A, c, e, nil21⟩ ⟨0, false, 0, []⟩ (.slice none 0 0) = #[.slice A e.toks.length c, .int .i64 0, .int .i64 e.fin, .bool false, .int .i64 0, .slice none 0 0, .slice none 0 0, .slice none 0 0, .slice none 0 0, .slice none 0 0, .slice none 0 0, .slice none 0 0, .slice none 0 0, .slice none 0 0, .slice none 0 0, .slice none 0 0, .slice none 0 0, .slice none 0 0, .slice none 0 0, .slice none 0 0, .slice none 0 0, .slice none 0 0, .slice none 0 0, .slice none 0 0, .slice none 0 0, .slice none 0 0, .slice none 0 0] := by
  simp [psC, nil21]
theorem ps_new {w : World} {base c : Nat} {A : Option Addr} {toks : List Tk} (own : w.ownsRow base 100 4 (.slice A toks.length c) toks.length (toks.flatMap Tk.cells)) (hl : toks.length ≤ 4096) (z : Int) :
    PsAt ⟨w.heap.size, A, c, ⟨toks, z⟩, nil21⟩ (w.alloc (.cells #[.slice A toks.length c, .int .i64 0, .int .i64 z, .bool false, .int .i64 0, .slice none 0 0, .slice none 0 0, .slice none 0 0, .slice none 0 0, .slice none 0 0, .slice none 0 0, .slice none 0 0, .slice none 0 0, .slice none 0 0, .slice none 0 0, .slice none 0 0, .slice none 0 0, .slice none 0 0, .slice none 0 0, .slice none 0 0, .slice none 0 0, .slice none 0 0, .slice none 0 0, .slice none 0 0, .slice none 0 0, .slice none 0 0, .slice none 0 0] 69)) ⟨0, false, 0, []⟩ (.slice none 0 0) :=
  ⟨by rw [ps_cells]; exact heap_alloc_new w _, (RowOf.of_own own rfl).alloc (Nat.le_refl _) _, Nat.zero_le _, by show toks.length ≤ 100000; omega, World.ownsRow_nil _ _ _ _⟩
theorem pexpr_c (s : ByteArray) {LA DA : Option Addr} {ln lc rn rc : Nat} {left right : List Bs} (w : World) (hs : s.size ≤ 1099511627776) (hE : GE w) (hL : RowB w w.heap.size LA ln left) (hD : RowB w w.heap.size DA rn right) (hln : ln ≤ 1000000) (hrn : rn ≤ 1000000) : Calls Tryz.prog 8 #[.string s, .slice LA ln lc, .slice DA rn rc] w (PxPost w (pexprO s.data.toList left right)) := by
  have hmf : ∀ (fn : Fn) (first cap : Array Value) (w : World), (Instr.makeFunc fn first cap).run Tryz.prog w = .ok (.func fn first cap) w := fun _ _ _ _ => rfl
  have hP := fun w1 hb => xscan s w1 hs (GE.below hE hb)
  have hlen := scanO_len s.data.toList
  have hok := fun (toks : List Tk) (k : Nat) (h : scanO s.data.toList = (toks, k, 0)) => scan_okN h s.size
  unfold pexprO
  rw [← Lib.size_eq]
  generalize scanO s.data.toList = X at hP hlen hok ⊢
  obtain ⟨toks, i, ec⟩ := X
  simp only at hlen ⊢
  unfold KPost at hP
  simp only at hP
  by_cases hec : ec = 0
  · subst hec
    rw [if_neg (by simp)]
    have hN := hok toks i rfl
    clear hok
    have hWh := fun (w1 : World) (A1 : Option Addr) (c1 : Nat) own1 => whole_c (w := w1.alloc _) (p := ⟨w1.heap.size, A1, c1, ⟨toks, s.size⟩, nil21⟩) hN (ps_new (base := w.heap.size) own1 hlen s.size)
    have hred := whole_red ⟨toks, s.size⟩ ⟨0, false, 0, []⟩ (Nat.zero_le _)
    unfold parseExprP
    simp only at hWh
    generalize wholeP ⟨toks, s.size⟩ ⟨0, false, 0, []⟩ = q at hWh hred ⊢
    obtain ⟨x, s2⟩ := q
    simp only at hWh hred ⊢
    unfold WhPost ptrV at hWh
    simp only at hWh
    by_cases hlt : s2.pos < toks.length
    · rw [if_pos hlt, if_pos (show (s2.fail ⟨toks, s.size⟩).failed = true from rfl)]
      go_enter_defers Tryz.func8, Tryz.ntmps8
      go_wp2_with (first
        | (go_at_call 18; refine (hP _ (by (exact belQ))).mono ?_; rintro e w1 ⟨A1, c1, rfl, own1, hb1⟩)
        | (go_at_call 19; refine (hWh _ _ _ own1).mono ?_; rintro e w2 ⟨r, a, rv2, hx2, rfl, P2, T2, F2, O2⟩; obtain ⟨AR, cR, rfl, -, -⟩ := own_slice P2.refs; have P3 := P2.alloc (.cells #[.pointer (some ⟨a, 0, none⟩), .slice AR s2.refs.length cR] 72); obtain ⟨⟨d0, d1, -, d3, d4, -⟩, -⟩ := P3.cells; simp only at d0 d1 d3 d4))
      go_quiet (fail)
      go_wp2_with (go_at_call 20; refine (fail_c (P3.drewN _)).mono ?_; rintro e w4 ⟨rfl, P4, F4⟩; obtain ⟨⟨-, -, -, e3, e4, -⟩, -⟩ := P4.cells; simp only at e3 e4; rw [show (s2.fail ⟨toks, s.size⟩).failed = true from rfl] at e3)
      go_quiet (fail)
      go_wp2_with fail
      refine leave_idle idle_ParseExpr (by simp [go_sem]) (by simp [results, Tryz.results8, go_sem]; rfl) ?_
      have hz1 := hb1.size
      have q2 := below_pfr (hb1.alloc hz1 _) F2 (fun k hk => by subst hk; exact hz1) (by simp; omega)
      have q4 := below_pfr (below_drewN (q2.alloc q2.size _) _) F4 (fun k hk => by subst hk; exact hz1) (by have := q2.size; simp; omega)
      exact ⟨.slice none 0 0, rfl, World.ownsRow_nil _ _ _ _, below_drewN q4 _⟩
    · rw [if_neg hlt]
      have hlt2 : ¬ (s2.pos : Int) < (toks.length : Int) := by omega
      cases hfd : s2.failed
      · rw [if_neg (by simp)]
        cases hxr : x.resolve left right with
        | error z =>
          simp only
          go_enter_defers Tryz.func8, Tryz.ntmps8
          go_wp2_with (first
          | (go_at_call 18; refine (hP _ (by (exact belQ))).mono ?_; rintro e w1 ⟨A1, c1, rfl, own1, hb1⟩)
          | (go_at_call 19; refine (hWh _ _ _ own1).mono ?_; rintro e w2 ⟨r, a, rv2, hx2, rfl, P2, T2, F2, O2⟩; obtain ⟨AR, cR, rfl, -, -⟩ := own_slice P2.refs; have P3 := P2.alloc (.cells #[.pointer (some ⟨a, 0, none⟩), .slice AR s2.refs.length cR] 72); obtain ⟨⟨d0, d1, -, d3, d4, -⟩, -⟩ := P3.cells; simp only at d0 d1 d3 d4))
          go_quiet (fail)
          have hz1 := hb1.size
          have q2 := below_pfr (hb1.alloc hz1 (.cells _ _)) F2 (fun k hk => by subst hk; exact hz1) (by simp; omega)
          have q3 := below_drewN (q2.alloc q2.size (.cells #[.pointer (some ⟨a, 0, none⟩), .slice AR s2.refs.length cR] 72)) nq
          subst hx2
          obtain ⟨r1, r2, r3⟩ := hred r rfl
          simp only at r1 r2 r3
          have hR := resolve_c (cr := cR) (lc := lc) (rc := rc) ((T2.below ((Below.refl _ _).alloc (Nat.le_refl _) _)).below (below_drewN (Below.refl _ _) nq)) (RowOf.of_own (P3.drewN nq).refs rfl) ((hL.below q3).more q3.size) ((hD.below q3).more q3.size) (by omega) hln hrn (by omega) r1
          clear P2 P3 d0 d1 d4 hWh hP own1 F2 O2 T2
          rw [hxr] at hR
          unfold RsPost at hR
          simp only at hR
          clear hxr
          go_wp2_with (go_at_call 21; refine hR.mono ?_; rintro e w5 ⟨rfl, hb5⟩)
          refine leave_idle idle_ParseExpr (by simp [go_sem]) (by simp [results, Tryz.results8, go_sem]; rfl) ?_
          exact ⟨.slice none 0 0, rfl, World.ownsRow_nil _ _ _ _, below_step hb5 q3 (Nat.le_refl _)⟩
        | ok l =>
          simp only
          go_enter_defers Tryz.func8, Tryz.ntmps8
          go_wp2_with (first
          | (go_at_call 18; refine (hP _ (by (exact belQ))).mono ?_; rintro e w1 ⟨A1, c1, rfl, own1, hb1⟩)
          | (go_at_call 19; refine (hWh _ _ _ own1).mono ?_; rintro e w2 ⟨r, a, rv2, hx2, rfl, P2, T2, F2, O2⟩; obtain ⟨AR, cR, rfl, -, -⟩ := own_slice P2.refs; have P3 := P2.alloc (.cells #[.pointer (some ⟨a, 0, none⟩), .slice AR s2.refs.length cR] 72); obtain ⟨⟨d0, d1, -, d3, d4, -⟩, -⟩ := P3.cells; simp only at d0 d1 d3 d4))
          go_quiet (fail)
          have hz1 := hb1.size
          have q2 := below_pfr (hb1.alloc hz1 (.cells _ _)) F2 (fun k hk => by subst hk; exact hz1) (by simp; omega)
          have q3 := below_drewN (q2.alloc q2.size (.cells #[.pointer (some ⟨a, 0, none⟩), .slice AR s2.refs.length cR] 72)) nq
          subst hx2
          obtain ⟨r1, r2, r3⟩ := hred r rfl
          simp only at r1 r2 r3
          have hR := resolve_c (cr := cR) (lc := lc) (rc := rc) ((T2.below ((Below.refl _ _).alloc (Nat.le_refl _) _)).below (below_drewN (Below.refl _ _) nq)) (RowOf.of_own (P3.drewN nq).refs rfl) ((hL.below q3).more q3.size) ((hD.below q3).more q3.size) (by omega) hln hrn (by omega) r1
          clear P2 P3 d0 d1 d4 hWh hP own1 F2 O2 T2
          rw [hxr] at hR
          unfold RsPost at hR
          simp only at hR
          clear hxr
          go_wp2_with (go_at_call 21; refine hR.mono ?_; rintro e w5 ⟨v5, rfl, own5, hb5⟩)
          refine leave_idle idle_ParseExpr (by simp [go_sem]) (by simp [results, Tryz.results8, go_sem]; rfl) ?_
          exact ⟨v5, rfl, own_base own5 q3.size, below_step hb5 q3 (Nat.le_refl _)⟩
      · rw [if_pos rfl]
        go_enter_defers Tryz.func8, Tryz.ntmps8
        go_wp2_with (first
        | (go_at_call 18; refine (hP _ (by (exact belQ))).mono ?_; rintro e w1 ⟨A1, c1, rfl, own1, hb1⟩)
        | (go_at_call 19; refine (hWh _ _ _ own1).mono ?_; rintro e w2 ⟨r, a, rv2, hx2, rfl, P2, T2, F2, O2⟩; obtain ⟨AR, cR, rfl, -, -⟩ := own_slice P2.refs; have P3 := P2.alloc (.cells #[.pointer (some ⟨a, 0, none⟩), .slice AR s2.refs.length cR] 72); obtain ⟨⟨d0, d1, -, d3, d4, -⟩, -⟩ := P3.cells; simp only at d0 d1 d3 d4))
        go_quiet (fail)
        go_wp2_with fail
        go_quiet (fail)
        go_wp2_with fail
        refine leave_idle idle_ParseExpr (by simp [go_sem]) (by simp [results, Tryz.results8, go_sem]; rfl) ?_
        have hz1 := hb1.size
        have q2 := below_pfr (hb1.alloc hz1 (.cells _ _)) F2 (fun k hk => by subst hk; exact hz1) (by simp; omega)
        exact ⟨.slice none 0 0, rfl, World.ownsRow_nil _ _ _ _, below_drewN (below_drewN (q2.alloc q2.size _) _) _⟩
  · rw [if_pos hec]
    have tec : (ec != 0) = true := by simpa using hec
    go_enter_defers Tryz.func8, Tryz.ntmps8
    go_wp2_with (go_at_call 18; refine (hP _ (by (exact belQ))).mono ?_; rintro e w1 ⟨A1, c1, rfl, own1, hb1⟩)
    refine leave_idle idle_ParseExpr (by simp [go_sem]) (by simp [results, Tryz.results8, go_sem]; rfl) ?_
    exact ⟨.slice none 0 0, rfl, World.ownsRow_nil _ _ _ _, by (exact belQ)⟩
structure Col where
  name : Bs
  ty : Int
  ns : Bs
  rf : Bs
  owners : List Int
  joint : Int
  duty : Int
structure Tab where
  name : Bs
  cols : List Col
  erase : Int
  retain : Int
structure Itm where
  name : Bs
  ex : List T
structure Agg where
  name : Bs
  fn : Int
  ex : List T
structure Viw where
  name : Bs
  kind : Int
  left : Bs
  right : Bs
  on : List (Int × Int)
  whr : List T
  items : List Itm
  distinct : Bool
  aggs : List Agg
structure Idx where
  name : Bs
  source : Bs
  column : Int
structure Skt where
  name : Bs
  source : Bs
  column : Int
  kind : Int
  width : Int
  depth : Int
structure Cch where
  name : Bs
  source : Bs
  column : Int
  ttl : Int
structure Rls where
  name : Bs
  source : Bs
  threshold : Int
structure Stm where
  name : Bs
  table : Bs
structure Bkp where
  name : Bs
  tables : List Bs
  keep : Int
structure Cat where
  tables : List Tab
  views : List Viw
  indexes : List Idx
  sketches : List Skt
  caches : List Cch
  releases : List Rls
  streams : List Stm
  backups : List Bkp
def Cat.nil : Cat := ⟨[], [], [], [], [], [], [], []⟩
structure Vn where
  left : Tk
  right : Tk
  on : List (Tk × Tk)
  items : List Xr
  aggs : List Xr
  whr : Xr
def Xr.none_ : Xr := ⟨none, []⟩
structure Dc where
  cat : Cat
  starts : List (List Int)
  owners : List (List (List Tk))
  views : List Vn
  indexes : List (Tk × Tk)
  sketches : List (Tk × Tk)
  caches : List (Tk × Tk)
def Dc.nil : Dc := ⟨Cat.nil, [[], [], [], [], [], [], [], []], [], [], [], [], []⟩
def nameP (e : Src) (s : Ps) : Bs × Ps := ((takeP e s 1).1.text, (takeP e s 1).2)
def numP (e : Src) (s : Ps) : Int × Ps := ((takeP e s 2).1.int, (takeP e s 2).2)
def moreP {α : Type} (e : Src) (el : Ps → α × Ps) : Nat → Ps → List α × Ps
  | 0, s => ([], s)
  | f + 1, s => if isP e s 0 [[44]] = true then
      let x := el { s with pos := s.pos + 1 }
      let r := moreP e el f x.2
      (x.1 :: r.1, r.2)
    else ([], s)
def listP {α : Type} (e : Src) (el : Ps → α × Ps) (s : Ps) : List α × Ps :=
  let x := el s
  let r := moreP e el (e.toks.length + 1) x.2
  (x.1 :: r.1, r.2)
def wDuty : Bs := [100, 117, 116, 121]
def isDutyP (e : Src) (s : Ps) : Bool := isP e s 0 [wDuty] && isKindP e s 1 2
def ownersP (e : Src) : Nat → Ps → List Tk × Ps
  | 0, s => ([], s)
  | f + 1, s => if isKindP e s 0 1 = true ∧ isDutyP e s = false then
      let x := takeP e s 1
      let r := ownersP e f x.2
      (x.1 :: r.1, r.2)
    else ([], s)
def optP {α : Type} (e : Src) (w : Bs) (d : α) (p : Ps → α × Ps) (s : Ps) : α × Ps := if isP e s 0 [w] = true then p { s with pos := s.pos + 1 } else (d, s)
def wText : Bs := [116, 101, 120, 116]
def personalP (e : Src) (s : Ps) : (Int × List Tk) × Ps :=
  let a := acceptP e s [[97, 108, 108]]
  let b := expectP e a.2 [[98, 121]]
  let x := takeP e b.2 1
  let r := ownersP e (e.toks.length + 1) x.2
  ((if a.1 = true then 1 else 0, x.1 :: r.1), r.2)
def columnP (e : Src) (s : Ps) : (Col × List Tk) × Ps :=
  let n := nameP e s
  let t := expectP e n.2 [[105, 110, 116], wText]
  let ns := optP e [110, 97, 109, 101, 115, 112, 97, 99, 101] [] (nameP e) t.2
  let rf := optP e [114, 101, 102, 101, 114, 101, 110, 99, 101, 115] [] (nameP e) ns.2
  let p := optP e [112, 101, 114, 115, 111, 110, 97, 108] (0, []) (personalP e) rf.2
  let d := optP e wDuty 0 (numP e) p.2
  ((⟨n.1, if t.1 = wText then 2 else 1, ns.1, rf.1, [], p.1.1, d.1⟩, p.1.2), d.2)
def tableP (e : Src) (s : Ps) : (Tab × List (List Tk)) × Ps :=
  let n := nameP e s
  let l := listP e (columnP e) (expectP e n.2 [[40]]).2
  let c := expectP e l.2 [[41]]
  let r := optP e [101, 114, 97, 115, 101] 0 (fun s => (1, (expectP e s [[114, 111, 119]]).2)) c.2
  let t := optP e [114, 101, 116, 97, 105, 110] 0 (numP e) r.2
  ((⟨n.1, l.1.map Prod.fst, r.1, t.1⟩, l.1.map Prod.snd), t.2)
def itemP (e : Src) (s : Ps) : (Bs × Xr) × Ps :=
  let n := nameP e s
  let x := wholeP e (expectP e n.2 [[61]]).2
  ((n.1, x.1), x.2)
def argP (e : Src) (s : Ps) : Xr × Ps :=
  let x := wholeP e (expectP e s [[40]]).2
  (x.1, (expectP e x.2 [[41]]).2)
def wCount : Bs := [99, 111, 117, 110, 116]
def wAggs : List Bs := [wCount, [115, 117, 109], [109, 105, 110], [109, 97, 120], [109, 101, 100, 105, 97, 110]]
def aggP (e : Src) (s : Ps) : (Agg × Xr) × Ps :=
  let n := nameP e s
  let w := expectP e (expectP e n.2 [[61]]).2 wAggs
  match findP wAggs w.1 with
  | none => ((⟨n.1, 0, []⟩, Xr.none_), w.2)
  | some 0 => ((⟨n.1, 0, []⟩, Xr.none_), w.2)
  | some (k + 1) => ((⟨n.1, (k + 1 : Nat), []⟩, (argP e w.2).1), (argP e w.2).2)
def pairP (e : Src) (s : Ps) : (Tk × Tk) × Ps :=
  let a := takeP e s 1
  let b := takeP e (expectP e a.2 [[61]]).2 1
  ((a.1, b.1), b.2)
def joinP (e : Src) (s : Ps) : (Tk × List (Tk × Tk)) × Ps :=
  let r := takeP e s 1
  let o := optP e [111, 110] [] (listP e (pairP e)) r.2
  ((r.1, o.1), o.2)
def inputsP (e : Src) (s : Ps) : (Tk × (Tk × List (Tk × Tk)) × Xr) × Ps :=
  let l := takeP e (expectP e s [[102, 114, 111, 109]]).2 1
  let j := optP e [106, 111, 105, 110] (Tk.zero, []) (joinP e) l.2
  let w := optP e [119, 104, 101, 114, 101] Xr.none_ (wholeP e) j.2
  ((l.1, j.1, w.1), w.2)
def wSelect : Bs := [115, 101, 108, 101, 99, 116]
def wGroup : Bs := [103, 114, 111, 117, 112]
def wUnion : Bs := [117, 110, 105, 111, 110]
def wDistinct : Bs := [100, 105, 115, 116, 105, 110, 99, 116]
def wWith : Bs := [119, 105, 116, 104]
def mkView (name : Bs) (kind : Int) (distinct : Bool) (its : List (Bs × Xr)) (ags : List (Agg × Xr)) (i : Tk × (Tk × List (Tk × Tk)) × Xr) : Viw × Vn :=
  (⟨name, kind, i.1.text, i.2.1.1.text, [], [], its.map fun x => ⟨x.1, []⟩, distinct, ags.map Prod.fst⟩, ⟨i.1, i.2.1.1, i.2.1.2, its.map Prod.snd, ags.map Prod.snd, i.2.2⟩)
def viewP (e : Src) (s : Ps) : (Viw × Vn) × Ps :=
  let n := nameP e s
  let w := expectP e n.2 [wSelect, wGroup, wUnion]
  if w.1 = wSelect then
    let d := if isP e w.2 0 [wDistinct] = true ∧ isP e w.2 1 [[61]] = false then acceptP e w.2 [wDistinct] else (false, w.2)
    let its := listP e (itemP e) d.2
    let i := inputsP e its.2
    (mkView n.1 0 d.1 its.1 [] i.1, i.2)
  else if w.1 = wGroup then
    let its := if isP e w.2 0 [wWith] = false ∨ isP e w.2 1 [[61]] = true then listP e (itemP e) w.2 else ([], w.2)
    let ags := listP e (aggP e) (expectP e its.2 [wWith]).2
    let i := inputsP e ags.2
    (mkView n.1 1 false its.1 ags.1 i.1, i.2)
  else if w.1 = wUnion then
    let l := takeP e w.2 1
    let r := takeP e l.2 1
    (mkView n.1 2 false [] [] (l.1, (r.1, []), Xr.none_), r.2)
  else (mkView n.1 0 false [] [] (Tk.zero, (Tk.zero, []), Xr.none_), w.2)
def placeP (e : Src) (s : Ps) : (Tk × Tk) × Ps :=
  let a := takeP e s 1
  let b := takeP e (expectP e a.2 [[46]]).2 1
  ((a.1, b.1), b.2)
def wOn : Bs := [111, 110]
def wOf : Bs := [111, 102]
def wSketches : List Bs := [wCount, [98, 108, 111, 111, 109], [98, 111, 116, 116, 111, 109]]
def wKinds : List Bs := [[116, 97, 98, 108, 101], [118, 105, 101, 119], [105, 110, 100, 101, 120], [115, 107, 101, 116, 99, 104], [99, 97, 99, 104, 101], [114, 101, 108, 101, 97, 115, 101], [115, 116, 114, 101, 97, 109], [98, 97, 99, 107, 117, 112]]
def kindP (e : Src) (k : Nat) (s : Ps) (d : Dc) : Dc × Ps := match k with
  | 0 =>
    let t := tableP e s
    ({ d with cat := { d.cat with tables := d.cat.tables ++ [t.1.1] }, owners := d.owners ++ [t.1.2] }, t.2)
  | 1 =>
    let v := viewP e s
    ({ d with cat := { d.cat with views := d.cat.views ++ [v.1.1] }, views := d.views ++ [v.1.2] }, v.2)
  | 2 =>
    let n := nameP e s
    let p := placeP e (expectP e n.2 [wOn]).2
    ({ d with cat := { d.cat with indexes := d.cat.indexes ++ [⟨n.1, p.1.1.text, 0⟩] }, indexes := d.indexes ++ [p.1] }, p.2)
  | 3 =>
    let n := nameP e s
    let w := expectP e n.2 wSketches
    let a := numP e w.2
    let b := numP e a.2
    let p := placeP e (expectP e b.2 [wOn]).2
    ({ d with cat := { d.cat with sketches := d.cat.sketches ++ [⟨n.1, p.1.1.text, 0, ((findP wSketches w.1).getD 0 : Nat), a.1, b.1⟩] }, sketches := d.sketches ++ [p.1] }, p.2)
  | 4 =>
    let n := nameP e s
    let p := placeP e (expectP e n.2 [wOn]).2
    let a := numP e (expectP e p.2 [[102, 111, 114]]).2
    ({ d with cat := { d.cat with caches := d.cat.caches ++ [⟨n.1, p.1.1.text, 0, a.1⟩] }, caches := d.caches ++ [p.1] }, a.2)
  | 5 =>
    let n := nameP e s
    let o := nameP e (expectP e n.2 [wOf]).2
    let a := numP e (expectP e o.2 [[97, 98, 111, 118, 101]]).2
    ({ d with cat := { d.cat with releases := d.cat.releases ++ [⟨n.1, o.1, a.1⟩] } }, a.2)
  | 6 =>
    let n := nameP e s
    let o := nameP e (expectP e n.2 [wOf]).2
    ({ d with cat := { d.cat with streams := d.cat.streams ++ [⟨n.1, o.1⟩] } }, o.2)
  | _ =>
    let n := nameP e s
    let l := listP e (nameP e) (expectP e n.2 [wOf]).2
    let a := numP e (expectP e l.2 [[107, 101, 101, 112]]).2
    ({ d with cat := { d.cat with backups := d.cat.backups ++ [⟨n.1, l.1, a.1⟩] } }, a.2)
def addAt (l : List (List Int)) (k : Nat) (p : Int) : List (List Int) := l.modify k (· ++ [p])
def declP (e : Src) (s : Ps) (d : Dc) : Dc × Ps :=
  let w := expectP e s wKinds
  match findP wKinds w.1 with
  | none => (d, w.2)
  | some k => kindP e k w.2 { d with starts := addAt d.starts k (e.toks.getD s.pos Tk.zero).pos }
def sourceP (e : Src) : Nat → Ps → Dc → Dc × Ps
  | 0, s, d => (d, s)
  | f + 1, s, d => if s.pos < e.toks.length then
      let x := declP e s d
      sourceP e f (expectP e x.2 [[59]]).2 x.1
    else (d, s)
abbrev Er := Int × Int
def findCol (l : List Bs) (t : Tk) : Except Er Int := match findP l t.text with
  | none => .error (t.pos, 3)
  | some n => .ok n
def mapE {α β : Type} (f : α → Except Er β) : List α → Except Er (List β)
  | [] => .ok []
  | a :: l => match f a with
    | .error p => .error p
    | .ok b => match mapE f l with
      | .error p => .error p
      | .ok m => .ok (b :: m)
def resTable (t : Tab) (ow : List (List Tk)) : Except Er Tab := match mapE (fun l => mapE (findCol (t.cols.map Col.name)) l) ow with
  | .error p => .error p
  | .ok m => .ok { t with cols := (t.cols.zip m).map fun x => { x.1 with owners := x.2.foldl addL [] } }
section
variable {p : Pp} {α : Type}
def LsRel (p : Pp) (Inv : World → Ps → List α → Prop) (el : Ps → α × Ps) (K : Nat) (R : List α × Ps) (wr : World) : Prop :=
  ∃ (f : Nat) (s : Ps) (acc : List α), Inv wr s acc ∧ acc.length + (p.e.toks.length - s.pos) ≤ K ∧ Hid ((acc ++ (moreP p.e el f s).1, (moreP p.e el f s).2) = R) ∧ p.e.toks.length - s.pos + 1 ≤ f
theorem moreP_f {e : Src} {el : Ps → α × Ps} {f : Nat} {s : Ps} (h : isP e s 0 [[44]] = false) : moreP e el (f + 1) s = ([], s) := by unfold moreP; rw [if_neg (by simp [h])]
theorem moreP_t {e : Src} {el : Ps → α × Ps} {f : Nat} {s : Ps} (h : isP e s 0 [[44]] = true) : moreP e el (f + 1) s = ((el { s with pos := s.pos + 1 }).1 :: (moreP e el f (el { s with pos := s.pos + 1 }).2).1, (moreP e el f (el { s with pos := s.pos + 1 }).2).2) := by rw [moreP]; rw [if_pos h]
theorem list_c (k : FuncId) (he : ∀ args w, (callFunc k args).run Tryz.prog w = .ok (.enter k args) w) (first cap : Array Value) (el : Ps → α × Ps) (Inv : World → Ps → List α → Prop)
    (hat : ∀ w s acc, Inv w s acc → ∃ rv, PsAt p w s rv)
    (hgo : ∀ w s acc w' s' rv, Inv w s acc → PsAt p w s rv → PsAt p w' s' rv → PFr (· = p.pb) w w' → Inv w' s' acc)
    (hmo : ∀ s, s.pos ≤ p.e.toks.length → s.pos ≤ (el s).2.pos)
    {acc0 : List α} (hel : ∀ w s acc, acc.length ≤ acc0.length + p.e.toks.length → Inv w s acc → Calls Tryz.prog k (first ++ cap) w fun e w' => e = .returned (.tuple #[]) ∧ Inv w' (el s).2 (acc ++ [(el s).1]))
    {w : World} {s : Ps} (h : Inv w s acc0) :
    Calls Tryz.prog 190 #[.pointer (some ⟨p.pb, 0, none⟩), .func (.func k) first cap] w fun e w' => e = .returned (.tuple #[]) ∧ Inv w' (listP p.e el s).2 (acc0 ++ (listP p.e el s).1) := by
  have h0 := hel w s acc0 (by omega) h
  have hl : acc0 ++ (listP p.e el s).1 = (acc0 ++ [(el s).1]) ++ (moreP p.e el (p.e.toks.length + 1) (el s).2).1 := by unfold listP; simp
  have hl2 : (listP p.e el s).2 = (moreP p.e el (p.e.toks.length + 1) (el s).2).2 := rfl
  rw [hl, hl2]
  generalize hR : ((acc0 ++ [(el s).1]) ++ (moreP p.e el (p.e.toks.length + 1) (el s).2).1, (moreP p.e el (p.e.toks.length + 1) (el s).2).2) = R
  have hR1 := congrArg Prod.fst hR
  have hR2 := congrArg Prod.snd hR
  simp only at hR1 hR2
  rw [hR1, hR2]
  have HR := Lib.hid hR
  clear hl hl2 hR1 hR2 hR
  generalize el s = q at h0 HR
  obtain ⟨x, s1⟩ := q
  simp only at h0 HR
  go_enter Tryz.func190, Tryz.ntmps190
  go_wp2_with (refine h0.mono ?_; rintro e w1 ⟨rfl, I1⟩)
  obtain ⟨rv1, P1⟩ := hat _ _ _ I1
  have hfew := P1.few
  go_loopw [8] (fun _ wr => LsRel p Inv el (acc0.length + p.e.toks.length + 1) R wr) (fun _ wr => p.e.toks.length - posW p wr)
  case atStart => exact ⟨p.e.toks.length + 1, s1, _, I1, by simp; omega, HR.out, by omega⟩
  case round =>
    obtain ⟨f1, s, acc, I, hKl, HC, hfu⟩ := hrel
    clear I1 P1 h h0
    obtain ⟨rv, P⟩ := hat _ _ _ I
    obtain ⟨f, rfl⟩ : ∃ f, f1 = f + 1 := ⟨f1 - 1, by omega⟩
    have hA := fun (P' : PsAt p (wr.alloc (.cells #[.string ⟨#[44]⟩] 9)) s rv) => accept_c (c := 1) (B := (wr.alloc (.cells #[.string ⟨#[44]⟩] 9)).heap.size) (n := 1) (A := some ⟨wr.heap.size, 0, none⟩) P' [[44]] (new_row wr _ _ 1 rfl rfl) (by omega)
    unfold GoPost at hA
    have HM := Lib.hid P.posW
    have hgo2 : ∀ w2 s2, PsAt p w2 s2 rv → PFr (· = p.pb) (wr.alloc (.cells #[.string ⟨#[44]⟩] 9)) w2 → Inv w2 s2 acc := fun w2 s2 h1 h2 => hgo wr s acc w2 s2 rv I P h1 (((PFr.refl _ _).alloc _).trans h2 fun _ _ x => x)
    cases hi : isP p.e s 0 [[44]]
    · have hC := HC.out
      rw [moreP_f hi] at hC
      simp only [List.append_nil] at hC
      subst hC
      rw [acceptP_f hi] at hA
      clear hi HC HR
      go_wp2_with (go_at_call 142; refine (hA (P.alloc _)).mono ?_; rintro e w2 ⟨rfl, P2, F2⟩)
      go_end0
      exact ⟨rfl, hgo2 _ _ P2 F2⟩
    · have hlt := isP_lt hi
      have hC := HC.out
      rw [moreP_t hi] at hC
      have hmo2 := hmo { s with pos := s.pos + 1 } (by simp only; omega)
      have hE := fun w2 (I2 : Inv w2 { s with pos := s.pos + 1 } acc) => hel w2 _ acc (by omega) I2
      generalize el { s with pos := s.pos + 1 } = q at hE hC hmo2
      obtain ⟨y, s3⟩ := q
      simp only at hE hC hmo2
      have HC2 := Lib.hid hC
      rw [acceptP_t hi] at hA
      clear hi hC HC HR
      go_wp2_with (first
        | (go_at_call 142; refine (hA (P.alloc _)).mono ?_; rintro e w2 ⟨rfl, P2, F2⟩)
        | (refine (hE _ (hgo2 _ _ P2 F2)).mono ?_; rintro e w3 ⟨rfl, I3⟩))
      obtain ⟨rv3, P3⟩ := hat _ _ _ I3
      have hp3 := P3.posW
      have ho3 := P3.ok
      go_roundw
      case rel =>
        refine ⟨f, s3, acc ++ [y], I3, by simp; omega, ?_, by omega⟩
        show (_, _) = R
        have := HC2.out
        simpa using this
      case measure =>
        rw [HM.out, hp3]
        omega
end
end Go.Proofs.YtpnfbehbheddeaaGreatDoor
