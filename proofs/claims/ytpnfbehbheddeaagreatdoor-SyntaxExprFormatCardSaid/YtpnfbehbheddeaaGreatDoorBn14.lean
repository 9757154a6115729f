/- Contract of parseText: strings of at most a hundred thousand bytes. -/
import Derived.Test.YtpnfbehbheddeaaGreatDoorBn13
import Derived.Test.YtpnfbehbheddeaaGreatDoorBn09
import Derived.Deep.Light
import Derived.Deep.RegionLaw
import Derived.Lib.EndianBits
namespace Go.Proofs.YtpnfbehbheddeaaGreatDoor
set_option maxRecDepth 100000
set_option maxHeartbeats 8000000
set_option linter.unusedVariables false
set_option linter.unusedSimpArgs false
open Go.RowKit
def VePost (w : World) (x : V × Int) (e : Ending) (w' : World) : Prop := e = .returned (.tuple #[.agg #[.int .i64 ((x.1)).k, .int .i64 ((x.1)).n, .string ((x.1)).s], .int .i64 x.2]) ∧ Below w.heap.size w w'
theorem hexI_of (a : UInt8) : Lib.indexByte hexL ((a.toNat : Int).toNat.toUInt8) = hexI a := by
  unfold hexI
  congr 1
  simp
theorem hexOr {A B : Int} (h0 : 0 ≤ A) (h1 : A < 16) (h2 : 0 ≤ B) (h3 : B < 16) : bits .or .i64 (A * 16) B = A * 16 + B :=
  bits_join .i64 40 (by decide) (fun m h0 h1 => IntWalk.i64_in _ (by omega)) 4 _ _ (by omega) (by omega) (by omega) (by omega) (by omega) (by omega)
theorem index_c (a : UInt8) (w : World) : Calls Tryz.prog 128 #[.string ⟨#[48, 49, 50, 51, 52, 53, 54, 55, 56, 57, 97, 98, 99, 100, 101, 102]⟩, .int .u8 a.toNat] w fun e w' => e = .returned (.int .i64 (hexI a)) ∧ w = w' :=
  (Tryz.strings_IndexByte _ _ _).mono fun _ _ h => ⟨h.1.trans (ret_int (hexI_of a)), h.2.symm⟩
def PxRel (w : World) (n : Nat) (l : List UInt8) (v5 v6 : Value) (wr : World) : Prop := ∃ (i : Nat) (tx : List UInt8), v6 = .int .i64 i ∧ i ≤ n ∧ tx.length ≤ i ∧ OwnB wr (w.heap.size + 1) v5 tx ∧ Below w.heap.size w wr ∧ wr.heap[w.heap.size]? = some (.cells #[.int .i64 0, .int .i64 0, .string ⟨#[]⟩] 36) ∧ UnqR l (i + 1) tx
theorem PxRel.next {w wr w2 : World} {n : Nat} {l : List UInt8} {u4 v' v5 : Value} {tx : List UInt8} {b : UInt8} (i : Nat) (h5 : v5 = .int .i64 i) (own : OwnB wr (w.heap.size + 1) u4 tx) (hbel : Below w.heap.size w wr) (hblk : wr.heap[w.heap.size]? = some (.cells #[.int .i64 0, .int .i64 0, .string ⟨#[]⟩] 36))
    (hown' : w2.ownsRow (w.heap.size + 1) 5 1 v' (tx.length + 1) (bcells tx ++ [.int .u8 b.toNat])) (hg' : wr.grownBy w2 u4.ownBlock) (hz : w.heap.size < wr.heap.size) (hd : UnqR l (i + 1) (tx ++ [b])) (h2 : i ≤ n) (h3 : tx.length + 1 ≤ i) : PxRel w n l v' v5 w2 := by
  have hlt : ∀ k, u4.ownBlock = some k → w.heap.size + 1 ≤ k := fun k hk => (World.ownsRow.lt own k hk).1
  refine ⟨i, tx ++ [b], h5, h2, by simp; omega, own_more hown' rfl rfl, hbel.grown hg' (by omega) (fun k hk => by have := hlt k hk; omega), ?_, hd⟩
  exact (hg'.block w.heap.size hz (fun e => by have := hlt _ e.symm; omega)).trans hblk
theorem extract_at {s : ByteArray} {a b i : Nat} (hi : i < b - a) : (s.extract a b).data.toList[i]? = s.data.toList[a + i]? := by
  rw [Lib.extract_data, List.getElem?_take, if_pos hi, List.getElem?_drop]
theorem parseText_c (s : ByteArray) (w : World) (hs : s.size ≤ 100000) : Calls Tryz.prog 182 #[.string s] w (VePost w (pText s.data.toList)) := by
  by_cases z0 : s.size < 2
  · have t0 : (s.size : Int) < 2 := by omega
    have HR := Lib.hid (pText_open (l := s.data.toList) (.inl (by rw [← Lib.size_eq]; exact z0)))
    go_enter Tryz.func182, Tryz.ntmps182
    go_wp2_with fail
    refine bodyPost_ret (by simp [results, Tryz.results182, go_sem]; rfl) rfl ?_
    unfold VePost
    rw [HR.out]
    exact ⟨rfl, by (exact belQ)⟩
  have t0 : ¬ (s.size : Int) < 2 := by omega
  have hll : s.size - 1 < s.data.toList.length := by rw [← Lib.size_eq]; omega
  obtain ⟨d, hd⟩ : ∃ d, s.data.toList[s.size - 1]? = some d := ⟨_, List.getElem?_eq_getElem hll⟩
  have hix := run_idx hd
  rw [show ((s.size - 1 : Nat) : Int) = (s.size : Int) - 1 by omega] at hix
  have HD := Lib.hid hd
  clear hd hll
  by_cases z1 : d = 34
  case neg =>
    have t1 : ((d.toNat : Int) != 34) = true := by
      rw [bne_iff_ne]
      intro h
      exact z1 (UInt8.toNat_inj.1 (show d.toNat = (34 : UInt8).toNat from by show d.toNat = 34; omega))
    have HR := Lib.hid (pText_open (l := s.data.toList) (.inr (by rw [← Lib.size_eq, HD.out]; intro h; injection h with h; exact z1 h)))
    clear z1
    go_enter Tryz.func182, Tryz.ntmps182
    go_wp2_with fail
    refine bodyPost_ret (by simp [results, Tryz.results182, go_sem]; rfl) rfl ?_
    unfold VePost
    rw [HR.out]
    exact ⟨rfl, by (exact belQ)⟩
  case pos =>
    have t1 : ((d.toNat : Int) != 34) = false := by rw [z1]; rfl
    have HL := Lib.hid (z1 ▸ HD.out)
    clear z1 HD
    obtain ⟨bd, hbd⟩ : ∃ bd, s.extract 1 (s.size - 1) = bd := ⟨_, rfl⟩
    have hbz : bd.size = s.size - 2 := by rw [← hbd, Lib.size_eq, Lib.extract_data]; simp; omega
    have hba : ∀ i, i < bd.size → bd.data.toList[i]? = s.data.toList[i + 1]? := fun i hi => by rw [← hbd, extract_at (by omega), Nat.add_comm]
    have hn1 : ((s.size : Int) - 1).toNat = s.size - 1 := by omega
    have HBA := Lib.hid hba
    have HBZ := Lib.hid hbz
    have hle : bd.size ≤ 100000 := by omega
    have HZ := Lib.hid (show s.data.toList.length = bd.size + 2 by rw [← Lib.size_eq]; omega)
    clear hba hbz
    have g1 : (0 : Int) ≤ (s.size : Int) - 1 := by omega
    have g2 : (1 : Int) ≤ (s.size : Int) - 1 := by omega
    have g3 : (s.size : Int) - 1 ≤ (s.size : Int) := by omega
    go_enter Tryz.func182, Tryz.ntmps182
    go_wp2_with fail
    go_loopw [5, 6] (fun v i wr => PxRel w bd.size s.data.toList v i wr) (fun _ i _ => bd.size - (intOf i).toNat)
    case atStart => exact ⟨0, [], rfl, by omega, by simp, OwnB.nil_ _ _, by (exact belQ), heap_alloc_new _ _, UnqR.start _⟩
    case round =>
      obtain ⟨i, tx, rfl, hi, htx, hown, hbel, hblk, hunq⟩ := hrel
      obtain ⟨c0, f0⟩ := blk_rules hblk
      have c00 := c0 0
      have c01 := c0 1
      have c02 := c0 2
      have f00 := f0 0
      have f01 := f0 1
      have f02 := f0 2
      have hz : w.heap.size < wr.heap.size := by
        rcases Nat.lt_or_ge w.heap.size wr.heap.size with h | h
        · exact h
        · rw [Array.getElem?_eq_none h] at hblk; cases hblk
      have HB := Lib.hid hblk
      clear hblk c0 f0
      have HU := Lib.hid hunq
      clear hunq
      have hown0 := hown
      obtain ⟨A5, c5, rfl, _, _⟩ := own_slice hown0
      have HO := Lib.hid hown
      clear hown hown0
      by_cases hE : i < bd.size
      · have hE1 : (i : Int) < (bd.size : Int) := by omega
        have hl1 : i < bd.data.toList.length := by rw [← Lib.size_eq]; omega
        obtain ⟨c, hc⟩ : ∃ c, bd.data.toList[i]? = some c := ⟨_, List.getElem?_eq_getElem hl1⟩
        have hiy := run_idx hc
        have HC := Lib.hid ((HBA.out i hE).symm.trans hc)
        clear hc hl1
        cases hp : plainB c
        · have HP := Lib.hid hp
          clear hp
          by_cases q0 : c = 92
          · have u0 : ((c.toNat : Int) == 92) = true := by rw [q0]; rfl
            have HC0 := Lib.hid (q0 ▸ HC.out)
            clear q0
            by_cases hE2 : i + 2 < bd.size
            · have hE3 : (i : Int) + 2 < (bd.size : Int) := by omega
              have hl2 : i + 1 < bd.data.toList.length := by rw [← Lib.size_eq]; omega
              have hl3 : i + 2 < bd.data.toList.length := by rw [← Lib.size_eq]; omega
              obtain ⟨a, ha⟩ : ∃ c, bd.data.toList[i + 1]? = some c := ⟨_, List.getElem?_eq_getElem hl2⟩
              obtain ⟨b, hb⟩ : ∃ c, bd.data.toList[i + 2]? = some c := ⟨_, List.getElem?_eq_getElem hl3⟩
              have hia := run_idx ha
              have hib := run_idx hb
              simp only [Int.natCast_add, Int.natCast_one, show ((2 : Nat) : Int) = 2 from rfl] at hia hib
              have HAa := Lib.hid ((HBA.out (i + 1) (by omega)).symm.trans ha)
              have HBb := Lib.hid ((HBA.out (i + 2) (by omega)).symm.trans hb)
              clear ha hb hl2 hl3
              have fa := hexI_facts a
              have fb := hexI_facts b
              obtain ⟨X, hX⟩ : ∃ X, hexI a = X := ⟨_, rfl⟩
              obtain ⟨Y, hY⟩ : ∃ Y, hexI b = Y := ⟨_, rfl⟩
              rw [hX] at fa
              rw [hY] at fb
              have HX := Lib.hid hX
              have HY := Lib.hid hY
              clear hX hY
              by_cases qa : X < 0
              · have HR := Lib.hid (pText_none (HU.out.bad HC0.out HAa.out HBb.out (fun h => by have := HX.out; omega)))
                clear fa fb
                go_wp2_with (first
                  | (go_at_call_of 229 (Value.int .u8 (c.toNat : Int)); refine (plain_c c _).mono ?_; rintro e w1 ⟨rfl, rfl⟩; rw [HP.out])
                  | (go_at_call_of 128 (Value.int .u8 (a.toNat : Int)); refine (index_c a _).mono ?_; rintro e w1 ⟨rfl, rfl⟩; rw [HX.out])
                  | (go_at_call_of 128 (Value.int .u8 (b.toNat : Int)); refine (index_c b _).mono ?_; rintro e w1 ⟨rfl, rfl⟩; rw [HY.out]))
                refine bodyPost_ret (by simp [results, Tryz.results182, go_sem, c00, c01, c02]; rfl) rfl ?_
                unfold VePost
                rw [HR.out]
                exact ⟨rfl, by (exact belQ)⟩
              by_cases qb : Y < 0
              · have HR := Lib.hid (pText_none (HU.out.bad HC0.out HAa.out HBb.out (fun h => by have := HY.out; omega)))
                clear fa fb
                go_wp2_with (first
                  | (go_at_call_of 229 (Value.int .u8 (c.toNat : Int)); refine (plain_c c _).mono ?_; rintro e w1 ⟨rfl, rfl⟩; rw [HP.out])
                  | (go_at_call_of 128 (Value.int .u8 (a.toNat : Int)); refine (index_c a _).mono ?_; rintro e w1 ⟨rfl, rfl⟩; rw [HX.out])
                  | (go_at_call_of 128 (Value.int .u8 (b.toNat : Int)); refine (index_c b _).mono ?_; rintro e w1 ⟨rfl, rfl⟩; rw [HY.out]))
                refine bodyPost_ret (by simp [results, Tryz.results182, go_sem, c00, c01, c02]; rfl) rfl ?_
                unfold VePost
                rw [HR.out]
                exact ⟨rfl, by (exact belQ)⟩
              have x0 : 0 ≤ X := by omega
              have x1 : X < 16 := by omega
              have y0 : 0 ≤ Y := by omega
              have y1 : Y < 16 := by omega
              obtain ⟨H, hH⟩ : ∃ H, hexB a b = H := ⟨_, rfl⟩
              have hHn : (H.toNat : Int) = X * 16 + Y := by
                rw [← hH, hexB_nat (by rw [HX.out]; exact x0) (by rw [HY.out]; exact y0), HX.out, HY.out]
              have v1 : IntKind.i64.wrap (X * 16) = X * 16 := IntWalk.i64_in _ (by omega)
              have v2 : bits .or .i64 (X * 16) Y = (H.toNat : Int) := (hexOr x0 x1 y0 y1).trans hHn.symm
              have hHl := H.toNat_lt
              have v3 : IntKind.u8.wrap (H.toNat : Int) = (H.toNat : Int) := IntWalk.u8_in _ (by omega)
              have HH := Lib.hid hH
              clear hH hHn fa fb
              cases hpl : plainB H
              · have HPL := Lib.hid hpl
                have HS := Lib.hid (HU.out.esc (by omega) HC0.out HAa.out HBb.out ⟨by rw [HX.out]; exact x0, by rw [HY.out]; exact y0, by rw [HH.out]; exact hpl⟩)
                clear hpl
                go_wp2_with (first
                  | (go_at_call_of 229 (Value.int .u8 (c.toNat : Int)); refine (plain_c c _).mono ?_; rintro e w1 ⟨rfl, rfl⟩; rw [HP.out])
                  | (go_at_call_of 128 (Value.int .u8 (a.toNat : Int)); refine (index_c a _).mono ?_; rintro e w1 ⟨rfl, rfl⟩; rw [HX.out])
                  | (go_at_call_of 128 (Value.int .u8 (b.toNat : Int)); refine (index_c b _).mono ?_; rintro e w1 ⟨rfl, rfl⟩; rw [HY.out])
                  | (go_at_call_of 229 (Value.int .u8 (H.toNat : Int)); refine (plain_c H _).mono ?_; rintro e w1 ⟨rfl, rfl⟩; rw [HPL.out])
                  | (at_builtin; refine wpList_app (v := (.slice A5 tx.length c5)) rfl _ _ stB rfl rfl (HO.out) rfl (by simp) rfl (by simp [Value.oneCell']) (by omega) (by omega) ?_; intro v' w2 hown' hg' hat'))
                exact ⟨PxRel.next (b := H) (i + 3) (by go_num) HO.out hbel HB.out hown' hg' hz (by have := HS.out; rw [HH.out] at this; exact this) (by omega) (by omega), by simp [intOf]; omega⟩
              · have HPL := Lib.hid hpl
                have HR := Lib.hid (pText_none (HU.out.bad HC0.out HAa.out HBb.out (fun h => by have h3 := h.2.2; rw [HH.out, HPL.out] at h3; cases h3)))
                clear hpl
                go_wp2_with (first
                  | (go_at_call_of 229 (Value.int .u8 (c.toNat : Int)); refine (plain_c c _).mono ?_; rintro e w1 ⟨rfl, rfl⟩; rw [HP.out])
                  | (go_at_call_of 128 (Value.int .u8 (a.toNat : Int)); refine (index_c a _).mono ?_; rintro e w1 ⟨rfl, rfl⟩; rw [HX.out])
                  | (go_at_call_of 128 (Value.int .u8 (b.toNat : Int)); refine (index_c b _).mono ?_; rintro e w1 ⟨rfl, rfl⟩; rw [HY.out])
                  | (go_at_call_of 229 (Value.int .u8 (H.toNat : Int)); refine (plain_c H _).mono ?_; rintro e w1 ⟨rfl, rfl⟩; rw [HPL.out]))
                refine bodyPost_ret (by simp [results, Tryz.results182, go_sem, c00, c01, c02]; rfl) rfl ?_
                unfold VePost
                rw [HR.out]
                exact ⟨rfl, by (exact belQ)⟩
            · have hE3 : ¬ (i : Int) + 2 < (bd.size : Int) := by omega
              have HR := Lib.hid (show pText s.data.toList = (V.null, 2) by
                apply pText_none
                have h1 := HL.out
                have h2 := HZ.out
                have h3 := h2
                rw [← Lib.size_eq] at h3
                by_cases h4 : i + 2 = bd.size
                · obtain ⟨a, ha⟩ : ∃ c, s.data.toList[i + 1 + 1]? = some c := ⟨_, List.getElem?_eq_getElem (by omega)⟩
                  exact HU.out.bad HC0.out ha (show s.data.toList[i + 1 + 2]? = some 34 by rw [show i + 1 + 2 = s.size - 1 by omega]; exact h1) (fun h => by have := hexI_34; omega)
                · exact HU.out.short HC0.out (by omega))
              go_wp2_with (go_at_call 229; refine (plain_c c _).mono ?_; rintro e w1 ⟨rfl, rfl⟩; rw [HP.out])
              refine bodyPost_ret (by simp [results, Tryz.results182, go_sem, c00, c01, c02]; rfl) rfl ?_
              unfold VePost
              rw [HR.out]
              exact ⟨rfl, by (exact belQ)⟩
          · have u0 : ((c.toNat : Int) == 92) = false := by
              rw [beq_eq_false_iff_ne]
              intro h
              exact q0 (UInt8.toNat_inj.1 (show c.toNat = (92 : UInt8).toNat from by show c.toNat = 92; omega))
            have HR := Lib.hid (show pText s.data.toList = (V.null, 2) by
              by_cases q1 : c = 34
              · rw [pText_some (HU.out.done (by omega) (q1 ▸ HC.out)), if_pos (by have := HZ.out; omega)]
              · exact pText_none (HU.out.odd HC.out q1 q0 HP.out))
            clear q0
            go_wp2_with (go_at_call 229; refine (plain_c c _).mono ?_; rintro e w1 ⟨rfl, rfl⟩; rw [HP.out])
            refine bodyPost_ret (by simp [results, Tryz.results182, go_sem, c00, c01, c02]; rfl) rfl ?_
            unfold VePost
            rw [HR.out]
            exact ⟨rfl, by (exact belQ)⟩
        · have HP := Lib.hid hp
          clear hp
          go_wp2_with (first
            | (go_at_call 229; refine (plain_c c _).mono ?_; rintro e w1 ⟨rfl, rfl⟩; rw [HP.out])
            | (at_builtin; refine wpList_app (v := (.slice A5 tx.length c5)) rfl _ _ stB rfl rfl (HO.out) rfl (by simp) rfl (by simp [Value.oneCell']) (by omega) (by omega) ?_; intro v' w2 hown' hg' hat'))
          exact ⟨PxRel.next (b := c) (i + 1) (by go_num) HO.out hbel HB.out hown' hg' hz (HU.out.plain (by omega) HC.out HP.out) (by omega) (by omega), by simp [intOf]; omega⟩
      · have hE1 : ¬ (i : Int) < (bd.size : Int) := by omega
        have HW := Lib.hid (HU.out.done (by omega) (by have h1 := HL.out; have h2 := HZ.out; rw [← Lib.size_eq] at h2; rw [show i + 1 = s.size - 1 by omega]; exact h1))
        by_cases hL : 32 < tx.length
        · have hL1 : 32 < (tx.length : Int) := by omega
          have HR := Lib.hid (show pText s.data.toList = (V.null, 1) by rw [pText_some HW.out, if_neg (by have := HZ.out; omega), if_pos hL])
          go_wp2_with fail
          refine bodyPost_ret (by simp [results, Tryz.results182, go_sem, c00, c01, c02]; rfl) rfl ?_
          unfold VePost
          rw [HR.out]
          exact ⟨rfl, by (exact belQ)⟩
        · have hL1 : ¬ 32 < (tx.length : Int) := by omega
          have HR := Lib.hid (show pText s.data.toList = (⟨2, 0, ⟨tx.toArray⟩⟩, 0) by rw [pText_some HW.out, if_neg (by have := HZ.out; omega), if_neg hL])
          have hts := run_toStr (l := tx) HO.out
          go_wp2_with fail
          refine bodyPost_ret (by simp [results, Tryz.results182, go_sem, c00, c01, c02]; rfl) rfl ?_
          unfold VePost
          rw [HR.out]
          exact ⟨rfl, by (exact belQ)⟩
end Go.Proofs.YtpnfbehbheddeaaGreatDoor
