/- The abstract machine: what it runs, the model runs. -/
import Derived.Test.YtaednlggmjlaaaaGreatDoorAmDrawn5
set_option linter.unusedVariables false
set_option linter.unusedSimpArgs false
namespace Go.AM
noncomputable section
open Go.RowKit

theorem run_sound {C : Cfg} (pr : PrOk C) : ∀ n, Sound C (run C n)
  | 0 => ⟨fun _ _ _ _ _ h => by simp [run_z] at h, fun _ _ _ _ _ _ _ h => by simp [run_z] at h, fun _ _ _ _ _ _ _ _ _ h => by simp [run_z] at h, fun _ _ _ _ _ _ h => by simp [run_z] at h⟩
  | n + 1 =>
    have S := run_sound pr n
    ⟨fun fr c s x s' h => code_sound pr S (fun _ _ _ _ _ _ h => drawn_sound pr S h) (fun _ _ _ _ _ _ _ _ h => rangeFunc_sound pr S h) (by simp only [run_s] at h; exact h),
     fun f args u h r u' h' hs => call_sound pr S (by simp only [run_s] at hs; exact hs),
     fun fn tm df m u h r u' h' hs => leave_sound pr S (by simp only [run_s] at hs; exact hs),
     fun l args h r u' h' hs => round_sound pr S (by simp only [run_s] at hs; exact hs)⟩

theorem calls_of {C : Cfg} (pr : PrOk C) {n f : Nat} {args : List V} {args' : Array Value} {v : V} {h h' : H} {u' : Option AMode} (hr : run C n (.call f args none h) = .ok (.e (.ret v) u' h')) {E : Env} {w : World} (m : MR E h w w) (g : GL E C.gl) (ha : ARs E args args'.toList) :
    Calls C.P f args' w fun e w' => ∃ E' v', e = .returned v' ∧ AR E' v v' ∧ Ext E h E' h' ∧ MR E' h' w w' := by
  intro cs
  obtain ⟨E', w', cs', fr', a1, a2, a3, a4, a5, a6, a7, a8, a9, a10, a11⟩ := ((run_sound pr n).call _ _ _ _ _ _ _ hr).1 E w w args' .normal cs m g ha rfl
  have e1 : cs' = cs := a4
  subst e1
  obtain ⟨hm, fn, v', h1, h2, h3⟩ := a11
  exact ⟨.returned v', w', fr', ⟨E', v', rfl, h3, a1, a2⟩, a6, a7, hm, a10, a8, fn, h1, h2⟩

def h00 : H := ⟨glim, .leaf⟩
def E00 : Env := fun _ => none

theorem MR.zero (w : World) : MR E00 h00 w w :=
  ⟨Below.refl _ _, fun b _ => ⟨rfl, T.get_leaf _⟩, Nat.le_refl _, by unfold h00 glim AM.lim; decide, fun b o p hb hp => (by cases hp), fun b o hb ho => (by rw [show h00.get b = none from T.get_leaf _] at ho; cases ho), fun b p _ hp => (by cases hp), fun b p hp => (by cases hp), fun b b' o o' p p' _ _ _ hp => (by cases hp)⟩

/-- a closed call that says yes. -/
theorem calls_true {P : Program} {ib : Option Nat} {fu n f : Nat} (pr : PrOk ⟨P, [], ib⟩) {q : Bool} {h' : H} {u' : Option AMode} (hr : run ⟨P, [], ib⟩ n (.call f [] none h00) = .ok (.e (.ret (.bool q)) u' h')) (w : World) :
    Calls P f #[] w fun e w' => e = .returned (.bool q) ∧ Below w.heap.size w w' := by
  refine Calls.mono (calls_of pr hr (MR.zero w) (by intro i h; cases h) .nil) ?_
  rintro e w' ⟨E', v', rfl, hv, x, m⟩
  cases hv
  exact ⟨rfl, m.below⟩
end
end Go.AM
