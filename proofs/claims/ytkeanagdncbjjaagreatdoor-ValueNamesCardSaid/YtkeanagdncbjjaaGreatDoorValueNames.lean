/- The law valueNames is true, in every world whose listed variables are as the program lays them. No other condition. -/
import Derived.Test.YtkeanagdncbjjaaGreatDoorValueNamesLift
import Derived.Test.YtkeanagdncbjjaaGreatDoorValueNamesJe
import Derived.Test.YtkeanagdncbjjaaGreatDoorCards
import Derived.Test.YtkeanagdncbjjaaGreatDoorTie
import Derived.ProofKit
import Derived.OpenShut
import Derived.LaidMore
import Derived.Lay
import Derived.SevenTiedAt
import Derived.Stop.Joined
namespace Go.Proofs.YtkeanagdncbjjaaGreatDoor
open Go.ChangeShapes Go.WideShapes Go.ChangeAt Go.RowKit

theorem valueNames_row : Rows.ValueNamesSaid :=
  OpenClaim.holds_of_wide 6 Tryz.f6 rfl rfl rfl rfl rfl rfl rfl ⟨rfl, rfl, rfl, rfl, rfl⟩ rfl rfl rfl rfl rfl (by kernel_rfl) Tryz.func6 valueNames_closed
    (of_decide_eq_true (by kernel_rfl)) (by unfold Func.isWrapper; first | (rw [if_pos (by decide +kernel)]; kernel_rfl) | (rw [if_neg (by decide +kernel)]; exact ⟨rfl, rfl⟩))
    (fun os started H enc _ => valueNames_lifted os started H enc)

theorem valueNames_holds : Rows.ValueNamesCardSaid :=
  Claim7.holds_tied_plain_at .later [] [.data, .data, .data, .sentinel, .sentinel, .listed, .data] true (true, "b8b16c8ca202afab7c3919536a893498c42e378727768fee55d4ac5db8e2d013") true
    valueNames_row (fun _ h => by cases h) (by kernel_rfl) (fun _ h => by cases h) valueNames_row_tie rfl ⟨rfl, rfl⟩ (by kernel_rfl) rfl
    (fun f fn hf hfn => by
      obtain rfl : f = 6 := Option.some.inj ((show Tryz.prog.funcNamed "quoin/quoinlaw13.ValueNames" = some 6 by kernel_rfl).symm.trans hf) |>.symm
      obtain rfl : fn = Tryz.f6 := (Option.some.inj (Tryz.func6.symm.trans hfn)).symm
      exact ⟨by kernel_rfl, fun j t ht => by
        rw [Tryz.params6] at ht
        simp at ht⟩)
    (by kernel_rfl)
#print axioms valueNames_holds
end Go.Proofs.YtkeanagdncbjjaaGreatDoor
