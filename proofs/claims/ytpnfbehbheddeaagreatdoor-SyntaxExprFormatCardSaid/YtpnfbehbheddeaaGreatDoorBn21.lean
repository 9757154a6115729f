/- Contract of column. The numbers of the tokens are from 0 to 2^32. append(dst, src...) onto a row of the call's own, whatever the source: nil, empty or not. No condition beyond the size. -/
import Derived.Test.YtpnfbehbheddeaaGreatDoorBn20
import Derived.Deep.CutRange
import Derived.Test.YtpnfbehbheddeaaGreatDoorBn00
import Derived.Laws.AppendOwnNone
namespace Go.Proofs.YtpnfbehbheddeaaGreatDoor
set_option maxRecDepth 100000
set_option maxHeartbeats 8000000
set_option linter.unusedVariables false
set_option linter.unusedSimpArgs false
open Go.RowKit
def colC (c : Col) (ov : Value) : Array Value := #[.string ⟨c.name.toArray⟩, .int .i64 c.ty, .string ⟨c.ns.toArray⟩, .string ⟨c.rf.toArray⟩, ov, .int .i64 c.joint, .int .i64 c.duty]
def zCol : Col := ⟨[], 0, [], [], [], 0, 0⟩
structure CSt (p : Pp) (w : World) (rv : Value) (zr z : Nat) (s : Ps) (c : Col) (wx : World) : Prop where
  at_ : PsAt p wx s rv
  fr : PFr (· = p.pb) w wx
  bx : Box wx z (colC c (.slice none 0 0)) 82
  br : Box wx zr (colC zCol (.slice none 0 0)) 82
structure CZ (p : Pp) (w : World) (zr z : Nat) : Prop where
  h1 : w.heap.size ≤ z
  h2 : w.heap.size ≤ zr
  h3 : p.pb < z
  h4 : p.pb < zr
  h5 : z ≠ zr
section
variable {p : Pp} {w wx wy : World} {rv : Value} {zr z : Nat} {s s' : Ps} {c : Col}
theorem CSt.go (h : CSt p w rv zr z s c wx) (hz : CZ p w zr z) (h1 : PsAt p wy s' rv) (h2 : PFr (· = p.pb) wx wy) : CSt p w rv zr z s' c wy :=
  ⟨h1, h.fr.trans h2 fun _ _ x => x, h.bx.pfr h2 (by have := hz.h3; omega), h.br.pfr h2 (by have := hz.h4; omega)⟩
theorem CSt.store (h : CSt p w rv zr z s c wx) (hz : CZ p w zr z) (i : Nat) (u : Value) (c' : Col) (hc : (colC c (.slice none 0 0)).set! i u = colC c' (.slice none 0 0)) : CSt p w rv zr z s c' (wx.setCell ⟨z, i, none⟩ u) :=
  ⟨h.at_.setBox h.bx (by decide) hz.h3 u, h.fr.setCell (.inr hz.h1) u, by rw [← hc]; exact h.bx.set u, h.br.setFar (Ne.symm hz.h5) u⟩
theorem CSt.grow (h : CSt p w rv zr z s c wx) (hl : p.pb < w.heap.size) {n : Nat} {v : Value} {xs : List Value} (hown : wx.ownsRow w.heap.size 100 4 v n xs) (hg : wx.grownBy wy v.ownBlock) : CSt p w rv zr z s c wy :=
  ⟨h.at_.grow hl hown (by decide) hg, h.fr.grown hg fun k hk hlt => by have := (hown.lt k hk).1; omega, h.bx.grow hown (by decide) hg, h.br.grow hown (by decide) hg⟩
end
theorem opt_acc {α : Type} {e : Src} {s s' : Ps} {x : Bs} {b : Bool} {d : α} {f : Ps → α × Ps} (h : acceptP e s [x] = (b, s')) : optP e x d f s = if b = true then f s' else (d, s') := by
  unfold acceptP at h
  unfold optP
  cases hi : isP e s 0 [x]
  · rw [hi, if_neg (by simp)] at h
    injection h with h1 h2
    subst h1 h2
    simp
  · rw [hi, if_pos rfl] at h
    injection h with h1 h2
    subst h1 h2
    simp
def ColPost (p : Pp) (w : World) (rv : Value) (r : (Col × List Tk) × Ps) (e : Ending) (w' : World) : Prop :=
  ∃ A cc, e = .returned (.tuple #[.agg (colC r.1.1 (.slice none 0 0)), .slice A r.1.2.length cc]) ∧ PsAt p w' r.2 rv ∧ PFr (· = p.pb) w w' ∧ w'.ownsRow w.heap.size 100 4 (.slice A r.1.2.length cc) r.1.2.length (r.1.2.flatMap Tk.cells)
def OwRel (p : Pp) (w : World) (rv : Value) (zr z : Nat) (c : Col) (R : List Tk × Ps) (v5 : Value) (wr : World) : Prop :=
  ∃ (f : Nat) (s : Ps) (l : List Tk), CSt p w rv zr z s c wr ∧ wr.ownsRow w.heap.size 100 4 v5 l.length (l.flatMap Tk.cells) ∧ l.length + (p.e.toks.length - s.pos) ≤ 100001 ∧ Hid ((l ++ (ownersP p.e f s).1, (ownersP p.e f s).2) = R) ∧ p.e.toks.length - s.pos + 1 ≤ f
theorem colC_1 (c : Col) (x : Int) : (colC c (.slice none 0 0)).set! 1 (.int .i64 x) = colC { c with ty := x } (.slice none 0 0) := rfl
theorem colC_2 (c : Col) (x : Bs) : (colC c (.slice none 0 0)).set! 2 (.string ⟨x.toArray⟩) = colC { c with ns := x } (.slice none 0 0) := rfl
theorem colC_3 (c : Col) (x : Bs) : (colC c (.slice none 0 0)).set! 3 (.string ⟨x.toArray⟩) = colC { c with rf := x } (.slice none 0 0) := rfl
theorem colC_5 (c : Col) (x : Int) : (colC c (.slice none 0 0)).set! 5 (.int .i64 x) = colC { c with joint := x } (.slice none 0 0) := rfl
theorem colC_6 (c : Col) (x : Int) : (colC c (.slice none 0 0)).set! 6 (.int .i64 x) = colC { c with duty := x } (.slice none 0 0) := rfl
section
variable {p : Pp}
theorem isDuty_c {w : World} {s : Ps} {rv : Value} (h : PsAt p w s rv) : Calls Tryz.prog 240 #[.pointer (some ⟨p.pb, 0, none⟩)] w (BPost w (isDutyP p.e s)) := by
  have hI := is0_c (c := 1) (B := (w.alloc (.cells #[.string ⟨#[100, 117, 116, 121]⟩] 9)).heap.size) (n := 1) (A := some ⟨w.heap.size, 0, none⟩) (h.alloc (.cells #[.string ⟨#[100, 117, 116, 121]⟩] 9)) [wDuty] (new_row w _ _ 1 rfl rfl) (by omega)
  unfold BPost at hI
  have hE := Lib.hid (show isDutyP p.e s = (isP p.e s 0 [wDuty] && isKindP p.e s 1 2) from rfl)
  generalize isP p.e s 0 [wDuty] = b at hI hE
  have hK := fun w1 (P : PsAt p w1 s rv) => isKind1_c P 2
  generalize isKindP p.e s 1 2 = b2 at hK hE
  cases b
  · go_enter Tryz.func240, Tryz.ntmps240
    go_wp2_with (go_at_call 130; refine hI.mono ?_; rintro e w2 ⟨rfl, hb2⟩)
    go_ret
    unfold BPost
    rw [hE.out]
    exact ⟨rfl, by (exact belQ)⟩
  · go_enter Tryz.func240, Tryz.ntmps240
    go_wp2_with (first
      | (go_at_call 130; refine hI.mono ?_; rintro e w2 ⟨rfl, hb2⟩)
      | (go_at_call 186; refine (hK _ ((h.alloc _).below hb2)).mono ?_; rintro e w3 ⟨rfl, rfl⟩))
    go_ret
    unfold BPost
    rw [hE.out]
    exact ⟨by simp, by (exact belQ)⟩
theorem column_c (hN : p.e.okN) {w : World} {s : Ps} {rv : Value} (h : PsAt p w s rv) : Calls Tryz.prog 192 #[.pointer (some ⟨p.pb, 0, none⟩)] w (ColPost p w rv (columnP p.e s)) := by
  have hlt := h.lt
  have hNm := fun w1 (P : PsAt p w1 s rv) => name_c P
  obtain ⟨R, hR⟩ : ∃ R, columnP p.e s = R := ⟨_, rfl⟩
  rw [hR]
  unfold columnP at hR
  rw [show nameP p.e s = ((takeP p.e s 1).1.text, (takeP p.e s 1).2) from rfl] at hR
  generalize takeP p.e s 1 = q at hNm hR
  obtain ⟨t, s1⟩ := q
  unfold GoPost at hNm
  simp only at hNm hR
  have hE := fun w1 (P : PsAt p w1 s1 rv) => exp2_c P [105, 110, 116] [116, 101, 120, 116]
  rw [show ([[105, 110, 116], wText] : List Bs) = [[105, 110, 116], [116, 101, 120, 116]] from rfl] at hR
  generalize expectP p.e s1 [[105, 110, 116], [116, 101, 120, 116]] = q at hE hR
  obtain ⟨wd, s2⟩ := q
  unfold ExpPost at hE
  simp only at hE hR
  have HR := Lib.hid hR
  clear hR
  obtain ⟨zr, w0, ez, ew, P0, F0, hzr, hge, hgt, hlz⟩ := alloc_ex h (· = p.pb) (colC zCol (.slice none 0 0)) 82
  unfold colC zCol at ew
  go_enter Tryz.func192, Tryz.ntmps192
  go_upto_region 2 with (first
    | (go_at_call 189; refine (hNm _ P0).mono ?_; rintro e w1 ⟨rfl, P1, F1⟩))
  obtain ⟨z, w2, ez2, ew2, P2, F2, hz2, hge2, hgt2, hlz2⟩ := alloc_ex P1 (· = p.pb) (colC ⟨t.text, 1, [], [], [], 0, 0⟩ (.slice none 0 0)) 82
  have CZ0 : CZ p w zr z := ⟨by have := F0.size; have := F1.size; omega, hge, hgt2, hgt, by have := F1.size; omega⟩
  have C0 : CSt p w rv zr z s1 ⟨t.text, 1, [], [], [], 0, 0⟩ w2 := ⟨P2, (F0.trans F1 fun _ _ x => x).trans F2 fun _ _ x => x, hz2, Box.pfr (Box.pfr hzr F1 (by omega)) F2 (by omega)⟩
  unfold colC at ew2
  simp only at ew2
  clear P0 F0 hzr hge hgt hlz P2 F2 hz2 hge2 hgt2 hlz2 P1 F1 ez ew
  rw [ew2, ez2]
  rw [show wText = [116, 101, 120, 116] from rfl] at HR
  obtain ⟨bw, hbw⟩ : ∃ bw, (wd == [116, 101, 120, 116]) = bw := ⟨_, rfl⟩
  obtain ⟨ty, hty⟩ : ∃ ty : Int, (if wd = [116, 101, 120, 116] then (2 : Int) else 1) = ty := ⟨_, rfl⟩
  have HTY := Lib.hid (show ty = if bw = true then 2 else 1 by rw [← hty, ← hbw]; simp)
  rw [hty] at HR
  clear hty
  go_upto_if 12 with (go_at_call 88; with_reducible refine (hE _ C0.at_).mono ?_; rintro e w3 ⟨rfl, P3, F3⟩)
  have C1 := C0.go CZ0 P3 F3
  clear C0 P3 F3 hE hNm hbw
  go_cut [13] (fun _ wx => CSt p w rv zr z s2 ⟨t.text, ty, [], [], [], 0, 0⟩ wx)
  case first =>
    cases bw
    · have hty := HTY.out
      rw [if_neg (by simp)] at hty
      subst hty
      go_wp2_with fail
      go_meet
      exact C1
    · have hty := HTY.out
      rw [if_pos rfl] at hty
      subst hty
      obtain ⟨hcB, hfB⟩ := Box.cells (C1.bx); have d0 := hcB 0; have df0 := hfB 0; have d1 := hcB 1; have df1 := hfB 1; clear hcB hfB
      unfold colC at d0 d1
      go_wp2_with fail
      go_meet
      exact C1.store CZ0 1 _ _ (colC_1 _ _)
  case rest =>
    clear C1
    clear HTY
    have C2 := hcut
    clear hcut
    obtain ⟨b, s', hq⟩ : ∃ b s', acceptP p.e s2 [[110, 97, 109, 101, 115, 112, 97, 99, 101]] = (b, s') := ⟨_, _, rfl⟩
    have hA := fun w1 (P : PsAt p w1 s2 rv) => acc1_c P [110, 97, 109, 101, 115, 112, 97, 99, 101]
    unfold AccPost at hA
    rw [hq] at hA
    have HO := Lib.hid (opt_acc (d := ([] : Bs)) (f := nameP p.e) hq)
    go_upto_if 16 with (go_at_call 142; with_reducible refine (hA _ C2.at_).mono ?_; rintro e wA ⟨rfl, PA, FA⟩)
    have CA := C2.go CZ0 PA FA
    clear C2 PA FA hA hq
    generalize optP p.e [110, 97, 109, 101, 115, 112, 97, 99, 101] ([] : Bs) (nameP p.e) s2 = q at HR HO
    obtain ⟨x, s3⟩ := q
    have hR := HR.out
    clear HR
    dsimp only at hR
    have HR := Lib.hid hR
    clear hR
    go_cut [17] (fun _ wx => CSt p w rv zr z s3 ⟨t.text, ty, x, [], [], 0, 0⟩ wx)
    case first =>
      cases b
      · have h := HO.out
        rw [if_neg (by simp)] at h
        obtain ⟨rfl, rfl⟩ : x = ([] : Bs) ∧ s3 = s' := ⟨congrArg Prod.fst h, congrArg Prod.snd h⟩
        go_wp2_with fail
        go_meet
        exact CA
      · have h := HO.out
        rw [if_pos rfl] at h
        have hNm := fun w1 (P : PsAt p w1 s' rv) => name_c P
        unfold nameP at h
        generalize takeP p.e s' 1 = q at hNm h
        obtain ⟨t1, s1'⟩ := q
        obtain ⟨rfl, rfl⟩ : x = t1.text ∧ s3 = s1' := ⟨congrArg Prod.fst h, congrArg Prod.snd h⟩
        unfold GoPost at hNm
        simp only at hNm
        go_wp2_with (go_at_call 189; with_reducible refine (hNm _ CA.at_).mono ?_; rintro e wB ⟨rfl, PB, FB⟩; have CB := CA.go CZ0 PB FB; obtain ⟨hcB, hfB⟩ := Box.cells (CB.bx); have d0 := hcB 0; have df0 := hfB 0; have d1 := hcB 1; have df1 := hfB 1; have d2 := hcB 2; have df2 := hfB 2; have d3 := hcB 3; have df3 := hfB 3; have d4 := hcB 4; have df4 := hfB 4; have d5 := hcB 5; have df5 := hfB 5; have d6 := hcB 6; have df6 := hfB 6; clear hcB hfB; unfold colC at d0 d1 d2 d3 d4 d5 d6)
        go_meet
        exact CB.store CZ0 2 _ _ (colC_2 ⟨t.text, ty, [], [], [], 0, 0⟩ t1.text)
    case rest =>
    clear CA HO
    have C3 := hcut
    clear hcut
    obtain ⟨ns, hns⟩ : ∃ ns, x = ns := ⟨_, rfl⟩
    rw [hns] at C3 HR
    clear hns x
    obtain ⟨b, s', hq⟩ : ∃ b s', acceptP p.e s3 [[114, 101, 102, 101, 114, 101, 110, 99, 101, 115]] = (b, s') := ⟨_, _, rfl⟩
    have hA := fun w1 (P : PsAt p w1 s3 rv) => acc1_c P [114, 101, 102, 101, 114, 101, 110, 99, 101, 115]
    unfold AccPost at hA
    rw [hq] at hA
    have HO := Lib.hid (opt_acc (d := ([] : Bs)) (f := nameP p.e) hq)
    go_upto_if 22 with (go_at_call 142; with_reducible refine (hA _ C3.at_).mono ?_; rintro e wA ⟨rfl, PA, FA⟩)
    have CA := C3.go CZ0 PA FA
    clear C3 PA FA hA hq
    generalize optP p.e [114, 101, 102, 101, 114, 101, 110, 99, 101, 115] ([] : Bs) (nameP p.e) s3 = q at HR HO
    obtain ⟨x, s4⟩ := q
    have hR := HR.out
    clear HR
    dsimp only at hR
    have HR := Lib.hid hR
    clear hR
    go_cut [23] (fun _ wx => CSt p w rv zr z s4 ⟨t.text, ty, ns, x, [], 0, 0⟩ wx)
    case first =>
      cases b
      · have h := HO.out
        rw [if_neg (by simp)] at h
        obtain ⟨rfl, rfl⟩ : x = ([] : Bs) ∧ s4 = s' := ⟨congrArg Prod.fst h, congrArg Prod.snd h⟩
        go_wp2_with fail
        go_meet
        exact CA
      · have h := HO.out
        rw [if_pos rfl] at h
        have hNm := fun w1 (P : PsAt p w1 s' rv) => name_c P
        unfold nameP at h
        generalize takeP p.e s' 1 = q at hNm h
        obtain ⟨t1, s1'⟩ := q
        obtain ⟨rfl, rfl⟩ : x = t1.text ∧ s4 = s1' := ⟨congrArg Prod.fst h, congrArg Prod.snd h⟩
        unfold GoPost at hNm
        simp only at hNm
        go_wp2_with (go_at_call 189; with_reducible refine (hNm _ CA.at_).mono ?_; rintro e wB ⟨rfl, PB, FB⟩; have CB := CA.go CZ0 PB FB; obtain ⟨hcB, hfB⟩ := Box.cells (CB.bx); have d0 := hcB 0; have df0 := hfB 0; have d1 := hcB 1; have df1 := hfB 1; have d2 := hcB 2; have df2 := hfB 2; have d3 := hcB 3; have df3 := hfB 3; have d4 := hcB 4; have df4 := hfB 4; have d5 := hcB 5; have df5 := hfB 5; have d6 := hcB 6; have df6 := hfB 6; clear hcB hfB; unfold colC at d0 d1 d2 d3 d4 d5 d6)
        go_meet
        exact CB.store CZ0 3 _ _ (colC_3 ⟨t.text, ty, ns, [], [], 0, 0⟩ t1.text)
    case rest =>
    clear CA HO
    have C4 := hcut
    clear hcut
    obtain ⟨rf, hrf⟩ : ∃ rf, x = rf := ⟨_, rfl⟩
    rw [hrf] at C4 HR
    clear hrf x
    obtain ⟨b, s', hq⟩ : ∃ b s', acceptP p.e s4 [[112, 101, 114, 115, 111, 110, 97, 108]] = (b, s') := ⟨_, _, rfl⟩
    have hA := fun w1 (P : PsAt p w1 s4 rv) => acc1_c P [112, 101, 114, 115, 111, 110, 97, 108]
    unfold AccPost at hA
    rw [hq] at hA
    have HO := Lib.hid (opt_acc (d := ((0 : Int), ([] : List Tk))) (f := personalP p.e) hq)
    go_upto_if 28 with (go_at_call 142; with_reducible refine (hA _ C4.at_).mono ?_; rintro e wA ⟨rfl, PA, FA⟩)
    have CA := C4.go CZ0 PA FA
    clear C4 PA FA hA hq
    generalize optP p.e [112, 101, 114, 115, 111, 110, 97, 108] ((0 : Int), ([] : List Tk)) (personalP p.e) s4 = q at HR HO
    obtain ⟨x, s5⟩ := q
    have hR := HR.out
    clear HR
    dsimp only at hR
    have HR := Lib.hid hR
    clear hR
    go_cut [5] (fun v5 wx => CSt p w rv zr z s5 ⟨t.text, ty, ns, rf, [], x.1, 0⟩ wx ∧ wx.ownsRow w.heap.size 100 4 v5 x.2.length (x.2.flatMap Tk.cells))
    case first =>
      cases b
      · have h := HO.out
        rw [if_neg (by simp)] at h
        obtain ⟨rfl, rfl⟩ : x = (0, []) ∧ s5 = s' := ⟨congrArg Prod.fst h, congrArg Prod.snd h⟩
        go_wp2_with fail
        go_meet
        exact ⟨CA, World.ownsRow_nil _ _ _ _⟩
      · have h := HO.out
        rw [if_pos rfl] at h
        unfold personalP at h
        obtain ⟨b, s6, hq⟩ : ∃ b s6, acceptP p.e s' [[97, 108, 108]] = (b, s6) := ⟨_, _, rfl⟩
        have hA := fun w1 (P : PsAt p w1 s' rv) => acc1_c P [97, 108, 108]
        unfold AccPost at hA
        rw [hq] at hA h
        dsimp only at h
        have hE := fun w1 (P : PsAt p w1 s6 rv) => exp1_c P [98, 121]
        generalize expectP p.e s6 [[98, 121]] = q at hE h
        obtain ⟨wd2, s7⟩ := q
        unfold ExpPost at hE
        dsimp only at hE h
        have hT := fun w1 (P : PsAt p w1 s7 rv) => takeName_c P
        generalize takeP p.e s7 1 = q at hT h
        obtain ⟨t1, s8⟩ := q
        unfold GoPost at hT
        dsimp only at hT h
        obtain ⟨h1, h3⟩ : ((if b = true then (1 : Int) else 0, t1 :: (ownersP p.e (p.e.toks.length + 1) s8).1) : Int × List Tk) = x ∧ (ownersP p.e (p.e.toks.length + 1) s8).2 = s5 := ⟨(congrArg Prod.fst h).symm, (congrArg Prod.snd h).symm⟩
        obtain ⟨x1, x2⟩ := x
        have HJ := Lib.hid (show (if b = true then (1 : Int) else 0) = x1 from congrArg Prod.fst h1)
        have h2 : t1 :: (ownersP p.e (p.e.toks.length + 1) s8).1 = x2 := congrArg Prod.snd h1
        have HX := Lib.hid (show (([t1] ++ (ownersP p.e (p.e.toks.length + 1) s8).1, (ownersP p.e (p.e.toks.length + 1) s8).2) : List Tk × Ps) = (x2, s5) by rw [h3, ← h2]; rfl)
        clear h h1 h2 h3 hq HO HR
        go_upto_if 31 with (go_at_call 142; with_reducible refine (hA _ CA.at_).mono ?_; rintro e wA ⟨rfl, PA, FA⟩)
        have C5 := CA.go CZ0 PA FA
        clear CA PA FA hA
        go_cut [32] (fun _ wx => CSt p w rv zr z s6 ⟨t.text, ty, ns, rf, [], x1, 0⟩ wx)
        case first =>
          cases b
          · have hj := HJ.out
            rw [if_neg (by simp)] at hj
            subst hj
            go_wp2_with fail
            go_meet
            exact C5
          · have hj := HJ.out
            rw [if_pos rfl] at hj
            subst hj
            obtain ⟨hcB, hfB⟩ := Box.cells (C5.bx); have d0 := hcB 0; have df0 := hfB 0; have d1 := hcB 1; have df1 := hfB 1; have d2 := hcB 2; have df2 := hfB 2; have d3 := hcB 3; have df3 := hfB 3; have d4 := hcB 4; have df4 := hfB 4; have d5 := hcB 5; have df5 := hfB 5; have d6 := hcB 6; have df6 := hfB 6; clear hcB hfB
            unfold colC at d0 d1 d2 d3 d4 d5 d6
            go_wp2_with fail
            go_meet
            exact C5.store CZ0 5 _ _ (colC_5 ⟨t.text, ty, ns, rf, [], 0, 0⟩ 1)
        case rest =>
          have C6 := hcut
          clear hcut C5 HJ
          go_wp2_with (first
            | (go_at_call 88; with_reducible refine (hE _ C6.at_).mono ?_; rintro e w7 ⟨rfl, P7, F7⟩; have C7 := C6.go CZ0 P7 F7)
            | (go_at_call 198; with_reducible refine (hT _ C7.at_).mono ?_; rintro e w8 ⟨rfl, P8, F8⟩; have C8 := C7.go CZ0 P8 F8; have z8 := C8.fr.size)
            | (at_builtin; refine wpList_app (v := .slice none 0 0) rfl _ _ stK rfl rfl ((World.ownsRow_nil _ w.heap.size _ _)) rfl (by simp) rfl (by simp [Value.oneCell']) (by omega) z8 ?_; intro v9 w9 own9 g9 at9))
          have C9 := C8.grow hlt (World.ownsRow_nil _ w.heap.size _ _) g9
          have own9' : w9.ownsRow w.heap.size 100 4 v9 [t1].length ([t1].flatMap Tk.cells) := own9
          have hfew := C9.at_.few
          have hok9 := C9.at_.ok
          clear own9 g9 at9 C8 C7 C6 P7 F7 P8 F8 hE hT
          go_loopw [5] (fun v5 wr => OwRel p w rv zr z ⟨t.text, ty, ns, rf, [], x1, 0⟩ (x2, s5) v5 wr) (fun _ wr => p.e.toks.length - posW p wr)
          case atStart => exact ⟨p.e.toks.length + 1, s8, [t1], C9, own9', by simp; omega, HX.out, by omega⟩
          case round =>
            obtain ⟨f1, s9, l, C, hown, hln, HC, hfu⟩ := hrel
            clear C9 own9'
            have hzz := C.fr.size
            obtain ⟨f, rfl⟩ : ∃ f, f1 = f + 1 := ⟨f1 - 1, by omega⟩
            obtain ⟨A5, c5, rfl, k51, k52⟩ := own_slice hown
            have hK := isKind0_c C.at_ 1
            have hD := isDuty_c C.at_
            have HM := Lib.hid C.at_.posW
            unfold BPost at hD
            cases hk : isKindP p.e s9 0 1
            · have hC := HC.out
              rw [show ownersP p.e (f + 1) s9 = ([], s9) by unfold ownersP; rw [if_neg (by simp [hk])]] at hC
              obtain ⟨h1, h2⟩ : l = x2 ∧ s9 = s5 := ⟨by have := congrArg Prod.fst hC; simpa using this, congrArg Prod.snd hC⟩
              subst h1 h2
              rw [hk] at hK
              clear hk hC HC hD HX
              go_wp2_with (go_at_call 186; refine hK.mono ?_; rintro e w10 ⟨rfl, rfl⟩)
              go_meet
              exact ⟨C, hown⟩
            · rw [hk] at hK
              have hlt9 := isKindP_lt hk
              cases hd : isDutyP p.e s9
              · have hC := HC.out
                rw [show ownersP p.e (f + 1) s9 = ((takeP p.e s9 1).1 :: (ownersP p.e f (takeP p.e s9 1).2).1, (ownersP p.e f (takeP p.e s9 1).2).2) by rw [ownersP]; rw [if_pos ⟨hk, hd⟩]] at hC
                have hT := fun w1 (P : PsAt p w1 s9 rv) => takeName_c P
                have hl9 := pTake_lt' (e := p.e) (s := s9) 1 hlt9
                generalize takeP p.e s9 1 = q at hT hC hl9
                obtain ⟨t2, s10⟩ := q
                unfold GoPost at hT
                dsimp only at hT hC hl9
                rw [hd] at hD
                have HC2 := Lib.hid hC
                clear hk hd hC HC HX
                go_wp2_with (first
                  | (go_at_call 186; refine hK.mono ?_; rintro e w10 ⟨rfl, rfl⟩)
                  | (go_at_call 240; refine hD.mono ?_; rintro e w11 ⟨rfl, hb11⟩; have C11 := C.go CZ0 (C.at_.below hb11) (PFr.of_below hb11); have own11 := own_below hown hb11)
                  | (go_at_call 198; with_reducible refine (hT _ C11.at_).mono ?_; rintro e w12 ⟨rfl, P12, F12⟩; have C12 := C11.go CZ0 P12 F12; have own12 := own_pfr own11 F12 (fun k hk e0 => by have := (own11.lt k hk).1; omega); have z12 := C12.fr.size)
                  | (at_builtin; refine wpList_app (v := .slice A5 l.length c5) rfl _ _ stK rfl rfl (own12) rfl (by simp) rfl (by simp [Value.oneCell']) (by omega) z12 ?_; intro v13 w13 own13 g13 at13))
                have C13 := C12.grow hlt own12 g13
                have hp13 := C13.at_.posW
                have ho13 := C13.at_.ok
                go_roundw
                case rel =>
                  refine ⟨f, s10, l ++ [t2], C13, ?_, by simp; omega, ?_, by omega⟩
                  · rw [List.length_append, List.flatMap_append]
                    exact own13
                  · show (_, _) = (x2, s5)
                    rw [← HC2.out]
                    simp
                case measure =>
                  rw [HM.out, hp13]
                  omega
              · have hC := HC.out
                rw [show ownersP p.e (f + 1) s9 = ([], s9) by unfold ownersP; rw [if_neg (by simp [hd])]] at hC
                obtain ⟨h1, h2⟩ : l = x2 ∧ s9 = s5 := ⟨by have := congrArg Prod.fst hC; simpa using this, congrArg Prod.snd hC⟩
                subst h1 h2
                rw [hd] at hD
                clear hk hd hC HC HX
                go_wp2_with (first
                  | (go_at_call 186; refine hK.mono ?_; rintro e w10 ⟨rfl, rfl⟩)
                  | (go_at_call 240; refine hD.mono ?_; rintro e w11 ⟨rfl, hb11⟩; have C11 := C.go CZ0 (C.at_.below hb11) (PFr.of_below hb11); have own11 := own_below hown hb11))
                go_meet
                exact ⟨C11, own11⟩
    case rest =>
      clear CA HO
      obtain ⟨x1, x2⟩ := x
      obtain ⟨C5, own5⟩ := hcut
      dsimp only at C5 own5
      obtain ⟨A5, c5, rfl, -, -⟩ := own_slice own5
      have hR := HR.out
      clear HR
      dsimp only at hR
      rw [show wDuty = [100, 117, 116, 121] from rfl] at hR
      obtain ⟨b, s', hq⟩ : ∃ b s', acceptP p.e s5 [[100, 117, 116, 121]] = (b, s') := ⟨_, _, rfl⟩
      have hA := fun w1 (P : PsAt p w1 s5 rv) => acc1_c P [100, 117, 116, 121]
      unfold AccPost at hA
      rw [hq] at hA
      have HO := Lib.hid (opt_acc (d := (0 : Int)) (f := numP p.e) hq)
      generalize optP p.e [100, 117, 116, 121] (0 : Int) (numP p.e) s5 = q at hR HO
      obtain ⟨y, s6⟩ := q
      dsimp only at hR
      have HR := Lib.hid hR
      clear hR hq
      go_upto_if 55 with (go_at_call 142; with_reducible refine (hA _ C5.at_).mono ?_; rintro e wA ⟨rfl, PA, FA⟩)
      have CA := C5.go CZ0 PA FA
      have ownA := own_pfr own5 FA (fun k hk e0 => by have := (own5.lt k hk).1; omega)
      clear C5 own5 PA FA hA
      go_cut [56] (fun _ wx => CSt p w rv zr z s6 ⟨t.text, ty, ns, rf, [], x1, y⟩ wx ∧ wx.ownsRow w.heap.size 100 4 (.slice A5 x2.length c5) x2.length (x2.flatMap Tk.cells))
      case first =>
        cases b
        · have h := HO.out
          rw [if_neg (by simp)] at h
          obtain ⟨rfl, rfl⟩ : y = 0 ∧ s6 = s' := ⟨congrArg Prod.fst h, congrArg Prod.snd h⟩
          go_wp2_with fail
          go_meet
          exact ⟨CA, ownA⟩
        · have h := HO.out
          rw [if_pos rfl] at h
          unfold numP at h
          have hn := take_num hN s'
          have hNm := fun w1 (P : PsAt p w1 s' rv) => pNumber_c P (IntWalk.i64_in _ (by omega))
          generalize takeP p.e s' 2 = q at hNm h
          obtain ⟨t1, s1'⟩ := q
          obtain ⟨h1, h2⟩ : y = t1.int ∧ s6 = s1' := ⟨congrArg Prod.fst h, congrArg Prod.snd h⟩
          subst h1 h2
          unfold GoPost at hNm
          dsimp only at hNm
          clear h hn
          go_wp2_with (go_at_call 193; with_reducible refine (hNm _ CA.at_).mono ?_; rintro e wB ⟨rfl, PB, FB⟩; have CB := CA.go CZ0 PB FB; have ownB := own_pfr ownA FB (fun k hk e0 => by have := (ownA.lt k hk).1; omega); obtain ⟨hcB, hfB⟩ := Box.cells (CB.bx); have d0 := hcB 0; have df0 := hfB 0; have d1 := hcB 1; have df1 := hfB 1; have d2 := hcB 2; have df2 := hfB 2; have d3 := hcB 3; have df3 := hfB 3; have d4 := hcB 4; have df4 := hfB 4; have d5 := hcB 5; have df5 := hfB 5; have d6 := hcB 6; have df6 := hfB 6; clear hcB hfB; unfold colC at d0 d1 d2 d3 d4 d5 d6)
          go_meet
          exact ⟨CB.store CZ0 6 _ _ (colC_6 ⟨t.text, ty, ns, rf, [], x1, 0⟩ _), own_setBox ownB CB.bx (by decide) _⟩
      case rest =>
        clear CA ownA HO
        obtain ⟨C6, own6⟩ := hcut
        have hR := HR.out
        subst hR
        clear HR
        obtain ⟨hcB, hfB⟩ := Box.cells (C6.bx); have d0 := hcB 0; have df0 := hfB 0; have d1 := hcB 1; have df1 := hfB 1; have d2 := hcB 2; have df2 := hfB 2; have d3 := hcB 3; have df3 := hfB 3; have d4 := hcB 4; have df4 := hfB 4; have d5 := hcB 5; have df5 := hfB 5; have d6 := hcB 6; have df6 := hfB 6; clear hcB hfB
        obtain ⟨hcB, hfB⟩ := Box.cells (C6.br); have k0 := hcB 0; have kf0 := hfB 0; have k1 := hcB 1; have kf1 := hfB 1; have k2 := hcB 2; have kf2 := hfB 2; have k3 := hcB 3; have kf3 := hfB 3; have k4 := hcB 4; have kf4 := hfB 4; have k5 := hcB 5; have kf5 := hfB 5; have k6 := hcB 6; have kf6 := hfB 6; clear hcB hfB
        unfold colC at d0 d1 d2 d3 d4 d5 d6
        unfold colC zCol at k0 k1 k2 k3 k4 k5 k6
        have hne := CZ0.h5
        go_wp2_with fail
        refine bodyPost_ret (by simp [results, Tryz.results192, go_sem, k0, k1, k2, k3, k4, k5, k6]; rfl) rfl ?_
        have FZ : PFr (· = zr) wc (((((((wc.setCell ⟨zr, 0, none⟩ (.string ⟨t.text.toArray⟩)).setCell ⟨zr, 1, none⟩ (.int .i64 ty)).setCell ⟨zr, 2, none⟩ (.string ⟨ns.toArray⟩)).setCell ⟨zr, 3, none⟩ (.string ⟨rf.toArray⟩)).setCell ⟨zr, 4, none⟩ (.slice none 0 0)).setCell ⟨zr, 5, none⟩ (.int .i64 x1)).setCell ⟨zr, 6, none⟩ (.int .i64 y)) := by (exact pfrQ)
        refine ⟨A5, c5, rfl, C6.at_.far C6.br (by decide) CZ0.h4 FZ, C6.fr.trans FZ fun k hk e => by have := CZ0.h2; omega, own_pfr own6 FZ fun k hk e0 => ?_⟩
        subst e0
        obtain ⟨cur2, hc⟩ := ref_blk own6 hk
        rw [show wc.heap[k]? = _ from C6.br] at hc
        injection hc with hc
        injection hc with _ hc
        exact absurd hc (by decide)
end
section
variable {P : Program} {ops : Array Oper} {rest : List Oper} {o : Oper} {a : Act} {Q : Exit → Act → World → Prop} {w : World}
theorem addr_add0 (b off j : Nat) : (⟨b, off, none⟩ : Addr).add j = ⟨b, off + j, none⟩ := by
  unfold Addr.add
  split
  · subst_vars; rfl
  · simp
theorem run_appAny {t e : TypeId} {size bytes : Nat} (ST : SliceTy P t e size bytes) (ty : TypeId) {base : Nat} {v : Value} {n : Nat} {xs : List Value} (hown : w.ownsRow base e size v n xs)
    {A : Option Addr} {m c B : Nat} {news : List Value} (hl : news.length = m * size) (hr : Rd w B A news) (hnone : A = none → c = 0) (h1 : ∀ u ∈ news, u.oneCell' = true)
    (hbytes : (n + m) * bytes ≤ 140737488355328) (hbase : base ≤ w.heap.size) :
    ∃ v' w', (Builtin.append_ #[t, t] ty #[v, .slice A m c]).run P w = .ok v' w' ∧ w'.ownsRow base e size v' (n + m) (xs ++ news) ∧ w.grownBy w' v.ownBlock ∧ (v'.ownBlock = v.ownBlock ∨ v'.ownBlock = some w.heap.size) := by
  obtain ⟨i, z, h2, h3, h4, h5, h6, h7, h8, h9⟩ := ST
  have h63 : n + m ≤ maxLen := by
    have : (n + m) * 1 ≤ (n + m) * bytes := Nat.mul_le_mul_left _ h9
    unfold maxLen
    omega
  rcases A with _ | ad
  · have hc := hnone rfl
    subst hc
    have hnews : news = [] := by
      rcases news with _ | ⟨x, l⟩
      · rfl
      · obtain ⟨b, off, e', _⟩ := hr (by simp)
        cases e'
    subst hnews
    have hm : m = 0 := by
      rcases Nat.eq_zero_or_pos m with h0 | h0
      · exact h0
      · have : 1 * 1 ≤ m * size := Nat.mul_le_mul h0 h8
        simp at hl
        omega
    subst hm
    have hrun := run_append_owned_none (P := P) (w := w) base t ty e i size h2 h3 v n xs hown
    exact ⟨v, w, hrun, by simpa using hown, ⟨rfl, rfl, rfl, Nat.le_refl _, fun _ _ _ => rfl⟩, .inl rfl⟩
  · have hcells : ∀ j u, news[j]? = some u → w.cell? (ad.add j) = some u := by
      intro j u hu
      obtain ⟨b, off, e', _, hc⟩ := hr (by rintro rfl; simp at hu)
      injection e' with e'
      subst e'
      rw [addr_add0]
      exact hc j u hu
    obtain ⟨v', w', hrun, g1, g2, _, g3⟩ := run_append_own_at (P := P) w base t ty e i z size bytes h2 h3 h4 h5 h6 h7 h8 v n xs hown ad m c news hl hcells h1 h63 hbytes hbase
    exact ⟨v', w', hrun, g1, g2, g3⟩
theorem wp_appAny {K : Act → World → Prop} (s x : Operand) {t e : TypeId} {size bytes : Nat} (ST : SliceTy P t e size bytes)
    (ho : o.op = .call { callee := .builtin .append, args := #[s, x], argTypes := #[t, t] })
    {base : Nat} {v : Value} {n : Nat} {xs : List Value} (hs : a.eval s = v) (hown : w.ownsRow base e size v n xs)
    {A : Option Addr} {m c B : Nat} {news : List Value} (hx : a.eval x = .slice A m c) (hl : news.length = m * size) (hr : Rd w B A news) (hnone : A = none → c = 0) (h1 : ∀ u ∈ news, u.oneCell' = true)
    (hbytes : (n + m) * bytes ≤ 140737488355328) (hbase : base ≤ w.heap.size)
    (h : ∀ v' w', w'.ownsRow base e size v' (n + m) (xs ++ news) → w.grownBy w' v.ownBlock → (v'.ownBlock = v.ownBlock ∨ v'.ownBlock = some w.heap.size) → K (a.put o.dst v') w') :
    o.wp P a w K Q := by
  obtain ⟨v', w', hrun, g1, g2, g3⟩ := run_appAny ST o.type hown hl hr hnone h1 hbytes hbase
  unfold Oper.wp execOp
  simp only [ho, resolve, invoke, builtin, Sem.run_bind, Sem.run_pure, Result.andThen_ok, List.map_toArray, List.map_cons, List.map_nil, hs, hx, hrun]
  exact h v' w' g1 g2 g3
theorem wpList_appAny (hgd : o.guard = none) (s x : Operand) {t e : TypeId} {size bytes : Nat} (ST : SliceTy P t e size bytes)
    (ho : o.op = .call { callee := .builtin .append, args := #[s, x], argTypes := #[t, t] })
    {base : Nat} {v : Value} {n : Nat} {xs : List Value} (hs : a.eval s = v) (hown : w.ownsRow base e size v n xs)
    {A : Option Addr} {m c B : Nat} {news : List Value} (hx : a.eval x = .slice A m c) (hl : news.length = m * size) (hr : Rd w B A news) (hnone : A = none → c = 0) (h1 : ∀ u ∈ news, u.oneCell' = true)
    (hbytes : (n + m) * bytes ≤ 140737488355328) (hbase : base ≤ w.heap.size)
    (h : ∀ v' w', w'.ownsRow base e size v' (n + m) (xs ++ news) → w.grownBy w' v.ownBlock → (v'.ownBlock = v.ownBlock ∨ v'.ownBlock = some w.heap.size) → wpList P ops Q rest (a.put o.dst v') w') :
    wpList P ops Q (o :: rest) a w :=
  wpList_plain hgd fun _ hK => wp_appAny s x ST ho hs hown hx hl hr hnone h1 hbytes hbase fun v' w' h2 h3 h4 => hK _ _ (h v' w' h2 h3 h4)
end
end Go.Proofs.YtpnfbehbheddeaaGreatDoor
