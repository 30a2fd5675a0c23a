/- laid for this seat: AmSound AmUse AmGlob -/
import Derived.Test.YtonlemmcdecibaaAmD
import Derived.ProofKit
import GoSem.ClaimJoined
import Derived.JoinedTies
import Derived.Lib.LaidTab
import Derived.LaidSub
import Derived.MakeChecks
import Derived.Stop.Joined
section
/- The abstract machine: what it runs, the model runs. -/
set_option linter.unusedVariables false
set_option linter.unusedSimpArgs false
namespace Go.AM
open Go.RowKit
theorem run_sound {C : Cfg} (pr : PrOk C) : ∀ n, Sound C (run C n)
 | 0 => ⟨fun _ _ _ _ _ h => by simp [run] at h, fun _ _ _ _ _ _ _ h => by simp [run] at h, fun _ _ _ _ _ _ _ _ _ h => by simp [run] at h, fun _ _ _ _ _ _ h => by simp [run] at h⟩
 | n + 1 =>
  have S := run_sound pr n
  ⟨fun fr c s x s' h => code_sound pr S (fun _ _ _ _ _ _ h => drawn_sound pr S h) (fun _ _ _ _ _ _ _ _ h => rangeFunc_sound pr S h) (by simp only [run] at h; exact h),
   fun f args u h r u' h' hs => call_sound pr S (by simp only [run] at hs; exact hs),
   fun fn tm df m u h r u' h' hs => leave_sound pr S (by simp only [run] at hs; exact hs),
   fun l args h r u' h' hs => round_sound pr S (by simp only [run] at hs; exact hs)⟩
theorem calls_of {C : Cfg} (pr : PrOk C) {n f : Nat} {args : List V} {args' : Array Value} {v : V} {h h' : H} {u' : Option AMode} (hr : run C n (.call f args none h) = .ok (.e (.ret v) u' h')) {E : Env} {w : World} (m : MR E h w w) (g : GL E C.gl) (ha : ARs E args args'.toList) :
  Calls C.P f args' w fun e w' => ∃ E' v', e = .returned v' ∧ AR E' v v' ∧ Ext E h E' h' ∧ MR E' h' w w' := by
 intro cs
 obtain ⟨E', w', cs', fr', a1, a2, a3, a4, a5, a6, a7, a8, a9, a10, a11⟩ := ((run_sound pr n).call _ _ _ _ _ _ _ hr).1 E w w args' .normal cs m g ha rfl
 have e1 : cs' = cs := a4
 subst e1
 obtain ⟨hm, fn, v', h1, h2, h3⟩ := a11
 exact ⟨.returned v', w', fr', ⟨E', v', rfl, h3, a1, a2⟩, a6, a7, hm, a10, a8, fn, h1, h2⟩
def h00 : H := ⟨glim, .leaf⟩
def E00 : Env := fun _ => none
theorem MR.zero (w : World) : MR E00 h00 w w :=
 ⟨Below.refl _ _, fun b _ => ⟨rfl, T.get_leaf _⟩, Nat.le_refl _, by unfold h00 glim AM.lim; decide, fun b o p hb hp => (by cases hp), fun b o hb ho => (by rw [show h00.get b = none from T.get_leaf _] at ho; cases ho), fun b p _ hp => (by cases hp), fun b p hp => (by cases hp), fun b b' o o' p p' _ _ _ hp => (by cases hp)⟩
end Go.AM
end
section
/- The abstract machine: how a row of a closed law is shut. -/
set_option linter.unusedVariables false
namespace Go.AM
open Go.RowKit Go.ChangeShapes
def isTrue : M Res → Bool
 | .ok (.e (.ret (.bool true)) _ _) => true
 | _ => false
theorem isTrue_spec {r : M Res} (h : isTrue r = true) : ∃ u h', r = .ok (.e (.ret (.bool true)) u h') := by
 unfold isTrue at h
 split at h
 ·rename_i u h'; exact ⟨u, h', rfl⟩
 ·cases h
def namesB (P : Program) : Bool := P.funcs.toList.all fun fn => !fn.body.isSome || !(fn.name == "runtime.NumGoroutine")
theorem prOk_of {P : Program} (h1 : P.follows .mixedOrders = true) (h2 : namesB P = true) : PrOk ⟨P, [], none⟩ := by
 refine ⟨h1, fun f fn hf hb => ?_, fun i hi => by cases hi⟩
 have := List.all_eq_true.1 h2 fn (by
  have := List.mem_of_getElem? (l := P.funcs.toList) (i := f) (a := fn) (by simpa using hf)
  exact this)
 rw [hb] at this
 simpa using this
end Go.AM
end
section
/- The abstract machine: starts whose memory holds one table of integers. -/
set_option linter.unusedVariables false
set_option linter.unusedSimpArgs false
namespace Go.AM
open Go.RowKit Go.Lib
end Go.AM
end
