/- A function that defers a closure which only recovers: what it leaves where nothing panics. No condition. -/
import Derived.Test.YtmbegmhgiekofaaDoorProg
import Derived.Test.YtmbegmhgiekofaaDoorBase
namespace Go.Proofs.YtmbegmhgiekofaaDoor
open Go.RowKit
theorem leave_idle {P : Program} {fn : Func} {f : FuncId} {tmps : Array Value} {R : Ending → World → Prop} {w : World} {v : Value}
    (idle : ∀ w, CallsD P f #[] .returning w fun e u' w' => e = .returned (.tuple #[]) ∧ u' = .returning ∧ w' = w)
    (hi : (invoke (.fn (.func f) #[]) #[]).run P w = .ok (.enter f #[]) w) (hr : (results fn tmps).run P w = .ok v w) (h : R (.returned v) w) :
    bodyPostD P fn R .ret { tmps := tmps, defers := [{ target := .fn (.func f) #[], args := #[] }] } w := by
  show Leaves P fn tmps R [{ target := .fn (.func f) #[], args := #[] }] .returning w
  refine leaves_cons (f := f) (args := #[]) (by simp) hi ?_
  refine (idle w).mono ?_
  rintro e u' w'' ⟨rfl, rfl, rfl⟩
  exact ⟨v, hr, h⟩
end Go.Proofs.YtmbegmhgiekofaaDoor
