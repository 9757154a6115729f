/- What Substitute gives, in plain Lean. No program in sight, no condition. -/
import Derived.Test.YtojcabnjodfdmaaGreatDoorBb
namespace Go.Proofs.YtojcabnjodfdmaaGreatDoor
def badCol (m : Nat) (t : T) : Bool := decide (t.op = 2) && decide ((m : Int) ≤ t.c)
def substE (es : List T) (items : List (List T)) : List T × Int :=
  if validE es = false then ([], 1) else if items.all validE = false then ([], 1) else if es.any (badCol items.length) = true then ([], 3) else if validE (subL items es) = true then (subL items es, 0) else ([], 8)
theorem subL_snoc (items : List (List T)) (l : List T) (t : T) : subL items (l ++ [t]) = subL items l ++ (if t.op = 2 then items.getD t.c.toNat [] else [t]) := by
  unfold subL
  rw [List.flatMap_append]
  simp
theorem subL_take {items : List (List T)} {es : List T} {k : Nat} {t : T} (h : es[k]? = some t) : subL items (es.take (k + 1)) = subL items (es.take k) ++ (if t.op = 2 then items.getD t.c.toNat [] else [t]) := by
  rw [List.take_add_one, h, Option.toList_some, subL_snoc]
theorem validE_len {l : List T} (h : validE l = true) : l.length ≤ 64 := ((validE_iff l).1 h).1
theorem validE_terms {l : List T} (h : validE l = true) : ∀ t ∈ l, t.ok = true := by
  obtain ⟨_, x, rfl, hw, _⟩ := (validE_iff l).1 h
  exact go x hw
where
  go : ∀ (x : X), x.wf = true → ∀ t ∈ x.flat, t.ok = true := by
    intro x
    match x with
    | .node t ks =>
      intro hw u hu
      simp only [X.wf, Bool.and_eq_true] at hw
      rw [X.flat_node] at hu
      rcases List.mem_cons.1 hu with rfl | hu
      · exact hw.1
      · exact gos ks hw.2.2 u hu
  gos : ∀ (xs : List X), wfs xs = true → ∀ t ∈ flats xs, t.ok = true := by
    intro xs
    match xs with
    | [] => intro _ u hu; simp [flats] at hu
    | x :: xs =>
      intro hw u hu
      simp only [wfs, Bool.and_eq_true] at hw
      rw [flats_cons] at hu
      rcases List.mem_append.1 hu with hu | hu
      · exact go x hw.1 u hu
      · exact gos xs hw.2 u hu
theorem getD_len {items : List (List T)} (h : items.all validE = true) (k : Nat) : (items.getD k []).length ≤ 64 := by
  rw [List.getD_eq_getElem?_getD]
  cases h1 : items[k]? with
  | none => simp
  | some l => exact validE_len (List.all_eq_true.1 h l (List.mem_of_getElem? h1))
theorem subL_len {items : List (List T)} (h : items.all validE = true) : ∀ l : List T, (subL items l).length ≤ 64 * l.length := by
  intro l
  induction l with
  | nil => simp [subL]
  | cons t l ih =>
    have h1 := getD_len h t.c.toNat
    unfold subL at ih ⊢
    rw [List.flatMap_cons, List.length_append, List.length_cons]
    split
    · omega
    · rw [List.length_singleton]; omega
end Go.Proofs.YtojcabnjodfdmaaGreatDoor
