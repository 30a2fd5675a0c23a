/- The law CachefileNames is true, in every world. No condition. -/
import Derived.Test.YtonlemmcdecibaaAmUse
import Derived.Test.YtonlemmcdecibaaRows
namespace Go.Proofs.Ytonlemmcdecibaa
open Go.ChangeShapes Go.WideShapes Go.ChangeAt Go.RowKit

theorem Try.own : ownKnob Try.prog.godebug = none := by kernel_rfl
theorem Try.prOk : AM.PrOk ⟨Try.prog, [], none⟩ := AM.prOk_of (by kernel_rfl) (by kernel_rfl)
theorem Try.cachefileNames_run : AM.isTrue (AM.run ⟨Try.prog, [], none⟩ 1000 (.call 7 [] none AM.h00)) = true := by kernel_rfl

set_option maxRecDepth 100000 in
theorem cachefileNames_lifted (os : Os) (started : os.Started) (H : Type) (enc : TypeId × Value → H) :
    ReturnsInHanded {} Try.checked os 7 .any (Rows.cachefileNamesSpec.pre6 enc Try.prog Try.f7 Rows.cachefileNamesRow.domain false) (Rows.cachefileNamesSpec.post enc Try.prog Try.f7 false true false false) := by
  refine returnsInHanded_of_change (C := Try.checked) Try.own started (by kernel_rfl) Try.func7
    (ChangeSpec.witness6 (enc := enc) (C := Try.checked) false ⟨#[], #[], []⟩ 8 (by kernel_rfl) (by kernel_rfl) (by kernel_rfl) (by kernel_rfl)) ?_
  intro W base args ds gs before hval0 hW hcnd _
  have hW' := hW
  obtain ⟨p, q, hA0, hV, rfl, hfz, hnd⟩ := hW
  have hA : DataW.TrodAll enc Try.prog W 0 (fun _ => true) true Try.f7.params.toList args.toList ds p := hA0
  rw [Try.params7] at hA
  obtain ⟨rfl, rfl, rfl⟩ := trodAll_none hA
  obtain ⟨rfl, rfl⟩ := trodVars_none hV
  refine (AM.yes Try.prOk Try.cachefileNames_run W).mono fun e W' ⟨he, bel⟩ => ?_
  subst he
  exact ⟨_, rfl, ⟨_, _, _, [], [], [], hW', trodAll_mk1 (shut_bool (by kernel_rfl) true), hA0, hV, bel.frame _, fun h => by cases h⟩⟩

theorem cachefileNames_holds : Rows.CachefileNamesSaid :=
  OpenClaim.holds_of_wide 7 Try.f7 rfl rfl rfl rfl rfl rfl rfl ⟨rfl, rfl, rfl, rfl, rfl⟩ rfl rfl rfl rfl rfl (by kernel_rfl) Try.func7 (by kernel_rfl)
    (of_decide_eq_true (by kernel_rfl)) (by unfold Func.isWrapper; first | (rw [if_pos (by decide +kernel)]; kernel_rfl) | (rw [if_neg (by decide +kernel)]; exact ⟨rfl, rfl⟩))
    (fun os started H enc _ => cachefileNames_lifted os started H enc)
#print axioms cachefileNames_holds
end Go.Proofs.Ytonlemmcdecibaa
