/- The law stmtxNames: what it comes to, in every world whose listed variables are as the program lays them. -/
import Derived.Test.YtipiffhjilidlaaDoorStmtxNamesRun
import Derived.Test.YtipiffhjilidlaaDoorRows
import Derived.ProofKit
import Derived.OpenShut
import Derived.LaidMore
import Derived.Lay
import Derived.SevenTiedAt
import Derived.Stop.Joined
namespace Go.Proofs.YtipiffhjilidlaaDoor
open Go.ChangeShapes Go.WideShapes Go.ChangeAt Go.RowKit

theorem stmtxNames_laid {W : World} (h : laidMetH Tryd.prog Rows.stmtxNamesRow.laid W) : ∃ c t, W.heap[0]? = some (.cells c t (0, 0)) ∧ c = (AM.spaces.map fun z => Value.int .u8 z).toArray := by
  exact AM.space_laid (t := 92) (e := 5) h (by kernel_rfl) (by kernel_rfl) Tryd.spaceG (by kernel_rfl) (by kernel_rfl) (by kernel_rfl) (by kernel_rfl) (by kernel_rfl) (of_decide_eq_true (by kernel_rfl))

set_option maxRecDepth 100000 in
theorem stmtxNames_lifted (os : Os) (started : os.Started) (H : Type) (enc : TypeId × Value → H) :
    ReturnsInHanded {} Tryd.checked os 7 .any (fun w args => (Rows.stmtxNamesSpec.pre enc Tryd.prog Tryd.f7 Rows.stmtxNamesRow.domain false w args ∧ laidMetH Tryd.prog Rows.stmtxNamesRow.laid w) ∧ sizedMet enc Tryd.prog Tryd.f7 (OpenSpec.ofChange Rows.stmtxNamesSpec) false w args)
      (Rows.stmtxNamesSpec.post enc Tryd.prog Tryd.f7 false true false false) := by
  refine returnsInHanded_of_change_and (C := Tryd.checked) (X := fun w _ => laidMetH Tryd.prog Rows.stmtxNamesRow.laid w) (fun _ _ _ hh h => h.of_heap hh) Tryd.own started (by kernel_rfl) Tryd.func7
    (ChangeSpec.witness_shaped (enc := enc) (C := Tryd.checked) (os := os) (X := fun w _ => laidMetH Tryd.prog Rows.stmtxNamesRow.laid w) false (World.laidAll Tryd.prog os Rows.stmtxNamesRow.laid) #[] 8 (World.laidAll_os _ _ _)
      (World.shaped_of_ZipB (by kernel_rfl) (by kernel_rfl)) (by kernel_rfl) (by kernel_rfl) (by kernel_rfl)
      (by rw [MakeChecks.laidMetH_plain _ _ _ (by kernel_rfl)]; exact laidMet_laidAll _ (by kernel_rfl) (by kernel_rfl))) ?_
  intro W base args ds gs before hval0 hW hcnd _ hL _
  have hW' := hW
  obtain ⟨p, q, hA0, hV, rfl, hfz, hnd⟩ := hW
  have hA : DataW.TrodAll enc Tryd.prog W 0 (fun _ => true) true Tryd.f7.params.toList args.toList ds p := hA0
  rw [Tryd.params7] at hA
  obtain ⟨rfl, rfl, rfl⟩ := trodAll_none hA
  obtain ⟨rfl, rfl⟩ := trodVars_none hV
  obtain ⟨c, t, hb, hc⟩ := stmtxNames_laid hL
  refine (AM.yes_tab Tryd.prOk Tryd.stmtxNames_run .nil (by decide) hb hc).mono fun e W' ⟨he, bel⟩ => ?_
  subst he
  exact ⟨_, rfl, ⟨_, _, _, [], [], [], hW', trodAll_mk1 (shut_bool (by kernel_rfl) true), hA0, hV, bel.frame _, fun h => by cases h⟩⟩

end Go.Proofs.YtipiffhjilidlaaDoor
