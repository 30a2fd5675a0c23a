/- The abstract machine: how a row of a closed law is shut. -/
import Derived.Test.YtaednlggmjlaaaaGreatDoorAmSound
import Derived.ProofKit
import GoSem.ClaimJoined
import Derived.JoinedTies
set_option linter.unusedVariables false
namespace Go.AM
noncomputable section
open Go.RowKit Go.ChangeShapes

def isTrue : M Res → Bool
  | .ok (.e (.ret (.bool true)) _ _) => true
  | _ => false

theorem isTrue_spec {r : M Res} (h : isTrue r = true) : ∃ u h', r = .ok (.e (.ret (.bool true)) u h') := by
  unfold isTrue at h
  split at h
  · rename_i u h'; exact ⟨u, h', rfl⟩
  · cases h

def namesB (P : Program) : Bool := P.funcs.toList.all fun fn => !fn.body.isSome || !(fn.name == "runtime.NumGoroutine")

theorem prOk_of {P : Program} (h1 : P.follows .mixedOrders = true) (h2 : namesB P = true) : PrOk ⟨P, [], none⟩ := by
  refine ⟨h1, fun f fn hf hb => ?_, fun i hi => by cases hi⟩
  have := List.all_eq_true.1 h2 fn (by
    have := List.mem_of_getElem? (l := P.funcs.toList) (i := f) (a := fn) (by simpa using hf)
    exact this)
  rw [hb] at this
  simpa using this

/-- a closed call that says yes, by its run. -/
theorem yes {P : Program} {n f : Nat} (pr : PrOk ⟨P, [], none⟩) (h : isTrue (run ⟨P, [], none⟩ n (.call f [] none h00)) = true) (w : World) : Calls P f #[] w fun e w' => e = .returned (.bool true) ∧ Below w.heap.size w w' := by
  obtain ⟨u, h', hr⟩ := isTrue_spec h
  exact calls_true (fu := 0) pr hr w

/-- a call with arguments that hold no memory, that says yes. -/
theorem yes_args {P : Program} {n f : Nat} {args : List V} {args' : Array Value} (pr : PrOk ⟨P, [], none⟩) (h : isTrue (run ⟨P, [], none⟩ n (.call f args none h00)) = true) (ha : ARs E00 args args'.toList) (w : World) :
    Calls P f args' w fun e w' => e = .returned (.bool true) ∧ Below w.heap.size w w' := by
  obtain ⟨u, h', hr⟩ := isTrue_spec h
  refine Calls.mono (calls_of pr hr (MR.zero w) (by intro i h; cases h) ha) ?_
  rintro e w' ⟨E', v', rfl, hv, x, m⟩
  cases hv
  exact ⟨rfl, m.below⟩
end
end Go.AM
