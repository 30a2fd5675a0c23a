/- The law sigNames is true, in every world whose listed variables are as the program lays them. No other condition. -/
import Derived.Test.YtkeanagdncbjjaaGreatDoorSigNamesLift
import Derived.Test.YtkeanagdncbjjaaGreatDoorSigNamesJe
import Derived.Test.YtkeanagdncbjjaaGreatDoorCards
import Derived.Test.YtkeanagdncbjjaaGreatDoorTie
import Derived.ProofKit
import Derived.OpenShut
import Derived.LaidMore
import Derived.Lay
import Derived.SevenTiedAt
import Derived.Stop.Joined
namespace Go.Proofs.YtkeanagdncbjjaaGreatDoor
open Go.ChangeShapes Go.WideShapes Go.ChangeAt Go.RowKit

theorem sigNames_row : Rows.SigNamesSaid :=
  OpenClaim.holds_of_wide 5 Tryz.f5 rfl rfl rfl rfl rfl rfl rfl ⟨rfl, rfl, rfl, rfl, rfl⟩ rfl rfl rfl rfl rfl (by kernel_rfl) Tryz.func5 sigNames_closed
    (of_decide_eq_true (by kernel_rfl)) (by unfold Func.isWrapper; first | (rw [if_pos (by decide +kernel)]; kernel_rfl) | (rw [if_neg (by decide +kernel)]; exact ⟨rfl, rfl⟩))
    (fun os started H enc _ => sigNames_lifted os started H enc)

theorem sigNames_holds : Rows.SigNamesCardSaid :=
  Claim7.holds_tied_plain_at .later [] [.data, .data, .data, .sentinel, .sentinel, .listed, .data] true (true, "b8b16c8ca202afab7c3919536a893498c42e378727768fee55d4ac5db8e2d013") true
    sigNames_row (fun _ h => by cases h) (by kernel_rfl) (fun _ h => by cases h) sigNames_row_tie rfl ⟨rfl, rfl⟩ (by kernel_rfl) rfl
    (fun f fn hf hfn => by
      obtain rfl : f = 5 := Option.some.inj ((show Tryz.prog.funcNamed "quoin/quoinlaw10.SigNames" = some 5 by kernel_rfl).symm.trans hf) |>.symm
      obtain rfl : fn = Tryz.f5 := (Option.some.inj (Tryz.func5.symm.trans hfn)).symm
      exact ⟨by kernel_rfl, fun j t ht => by
        rw [Tryz.params5] at ht
        simp at ht⟩)
    (by kernel_rfl)
#print axioms sigNames_holds
end Go.Proofs.YtkeanagdncbjjaaGreatDoor
