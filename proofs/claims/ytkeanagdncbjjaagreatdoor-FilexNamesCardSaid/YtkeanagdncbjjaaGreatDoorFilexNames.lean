/- The law filexNames is true, in every world whose listed variables are as the program lays them. No other condition. -/
import Derived.Test.YtkeanagdncbjjaaGreatDoorFilexNamesLift
import Derived.Test.YtkeanagdncbjjaaGreatDoorFilexNamesJe
import Derived.Test.YtkeanagdncbjjaaGreatDoorCards
import Derived.Test.YtkeanagdncbjjaaGreatDoorTie
import Derived.ProofKit
import Derived.OpenShut
import Derived.LaidMore
import Derived.Lay
import Derived.SevenTiedAt
import Derived.Stop.Joined
namespace Go.Proofs.YtkeanagdncbjjaaGreatDoor
open Go.ChangeShapes Go.WideShapes Go.ChangeAt Go.RowKit

theorem filexNames_row : Rows.FilexNamesSaid :=
  OpenClaim.holds_of_wide 4 Tryz.f4 rfl rfl rfl rfl rfl rfl rfl ⟨rfl, rfl, rfl, rfl, rfl⟩ rfl rfl rfl rfl rfl (by kernel_rfl) Tryz.func4 filexNames_closed
    (of_decide_eq_true (by kernel_rfl)) (by unfold Func.isWrapper; first | (rw [if_pos (by decide +kernel)]; kernel_rfl) | (rw [if_neg (by decide +kernel)]; exact ⟨rfl, rfl⟩))
    (fun os started H enc _ => filexNames_lifted os started H enc)

theorem filexNames_holds : Rows.FilexNamesCardSaid :=
  Claim7.holds_tied_plain_at .later [] [.data, .data, .data, .sentinel, .sentinel, .listed, .data] true (true, "b8b16c8ca202afab7c3919536a893498c42e378727768fee55d4ac5db8e2d013") true
    filexNames_row (fun _ h => by cases h) (by kernel_rfl) (fun _ h => by cases h) filexNames_row_tie rfl ⟨rfl, rfl⟩ (by kernel_rfl) rfl
    (fun f fn hf hfn => by
      obtain rfl : f = 4 := Option.some.inj ((show Tryz.prog.funcNamed "quoin/quoinlaw06.FilexNames" = some 4 by kernel_rfl).symm.trans hf) |>.symm
      obtain rfl : fn = Tryz.f4 := (Option.some.inj (Tryz.func4.symm.trans hfn)).symm
      exact ⟨by kernel_rfl, fun j t ht => by
        rw [Tryz.params4] at ht
        simp at ht⟩)
    (by kernel_rfl)
#print axioms filexNames_holds
end Go.Proofs.YtkeanagdncbjjaaGreatDoor
