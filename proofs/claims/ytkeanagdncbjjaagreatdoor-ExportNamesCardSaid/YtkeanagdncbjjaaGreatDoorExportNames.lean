/- The law exportNames is true, in every world whose listed variables are as the program lays them. No other condition. -/
import Derived.Test.YtkeanagdncbjjaaGreatDoorExportNamesLift
import Derived.Test.YtkeanagdncbjjaaGreatDoorCards
import Derived.Test.YtkeanagdncbjjaaGreatDoorTie
import Derived.ProofKit
import Derived.OpenShut
import Derived.LaidMore
import Derived.Lay
import Derived.SevenTiedAt
import Derived.Stop.Joined
namespace Go.Proofs.YtkeanagdncbjjaaGreatDoor
open Go.ChangeShapes Go.WideShapes Go.ChangeAt Go.RowKit

theorem exportNames_row : Rows.ExportNamesSaid :=
  OpenClaim.holds_of_wide 3 Tryz.f3 rfl rfl rfl rfl rfl rfl rfl ⟨rfl, rfl, rfl, rfl, rfl⟩ rfl rfl rfl rfl rfl (by kernel_rfl) Tryz.func3 (by kernel_rfl)
    (of_decide_eq_true (by kernel_rfl)) (by unfold Func.isWrapper; first | (rw [if_pos (by decide +kernel)]; kernel_rfl) | (rw [if_neg (by decide +kernel)]; exact ⟨rfl, rfl⟩))
    (fun os started H enc _ => exportNames_lifted os started H enc)

theorem exportNames_holds : Rows.ExportNamesCardSaid :=
  Claim7.holds_tied_plain_at .later [] [.listed, .data] true (true, "b8b16c8ca202afab7c3919536a893498c42e378727768fee55d4ac5db8e2d013") true
    exportNames_row (fun _ h => by cases h) (by kernel_rfl) (fun _ h => by cases h) exportNames_row_tie rfl ⟨rfl, rfl⟩ (by kernel_rfl) rfl
    (fun f fn hf hfn => by
      obtain rfl : f = 3 := Option.some.inj ((show Tryz.prog.funcNamed "quoin/quoinlaw16.ExportNames" = some 3 by kernel_rfl).symm.trans hf) |>.symm
      obtain rfl : fn = Tryz.f3 := (Option.some.inj (Tryz.func3.symm.trans hfn)).symm
      exact ⟨by kernel_rfl, fun j t ht => by
        rw [Tryz.params3] at ht
        simp at ht⟩)
    (by kernel_rfl)
#print axioms exportNames_holds
end Go.Proofs.YtkeanagdncbjjaaGreatDoor
