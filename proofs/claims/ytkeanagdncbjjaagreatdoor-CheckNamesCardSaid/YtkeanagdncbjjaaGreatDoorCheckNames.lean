/- The law checkNames is true, in every world whose listed variables are as the program lays them. No other condition. -/
import Derived.Test.YtkeanagdncbjjaaGreatDoorCheckNamesLift
import Derived.Test.YtkeanagdncbjjaaGreatDoorCheckNamesJe
import Derived.Test.YtkeanagdncbjjaaGreatDoorCards
import Derived.Test.YtkeanagdncbjjaaGreatDoorTie
import Derived.ProofKit
import Derived.OpenShut
import Derived.LaidMore
import Derived.Lay
import Derived.SevenTiedAt
import Derived.Stop.Joined
namespace Go.Proofs.YtkeanagdncbjjaaGreatDoor
open Go.ChangeShapes Go.WideShapes Go.ChangeAt Go.RowKit

theorem checkNames_row : Rows.CheckNamesSaid :=
  OpenClaim.holds_of_wide 7 Tryz.f7 rfl rfl rfl rfl rfl rfl rfl ⟨rfl, rfl, rfl, rfl, rfl⟩ rfl rfl rfl rfl rfl (by kernel_rfl) Tryz.func7 checkNames_closed
    (of_decide_eq_true (by kernel_rfl)) (by unfold Func.isWrapper; first | (rw [if_pos (by decide +kernel)]; kernel_rfl) | (rw [if_neg (by decide +kernel)]; exact ⟨rfl, rfl⟩))
    (fun os started H enc _ => checkNames_lifted os started H enc)

theorem checkNames_holds : Rows.CheckNamesCardSaid :=
  Claim7.holds_tied_plain_at .later [] [.data, .data, .data, .sentinel, .sentinel, .listed, .data] true (true, "b8b16c8ca202afab7c3919536a893498c42e378727768fee55d4ac5db8e2d013") true
    checkNames_row (fun _ h => by cases h) (by kernel_rfl) (fun _ h => by cases h) checkNames_row_tie rfl ⟨rfl, rfl⟩ (by kernel_rfl) rfl
    (fun f fn hf hfn => by
      obtain rfl : f = 7 := Option.some.inj ((show Tryz.prog.funcNamed "quoin/quoinlaw15.CheckNames" = some 7 by kernel_rfl).symm.trans hf) |>.symm
      obtain rfl : fn = Tryz.f7 := (Option.some.inj (Tryz.func7.symm.trans hfn)).symm
      exact ⟨by kernel_rfl, fun j t ht => by
        rw [Tryz.params7] at ht
        simp at ht⟩)
    (by kernel_rfl)
#print axioms checkNames_holds
end Go.Proofs.YtkeanagdncbjjaaGreatDoor
