/- The law bodyNames is true, in every world whose listed variables are as the program lays them. No other condition. -/
import Derived.Test.YtaednlggmjlaaaaGreatDoorBodyNamesLift
import Derived.Test.YtaednlggmjlaaaaGreatDoorBodyNamesJe
import Derived.Test.YtaednlggmjlaaaaGreatDoorCards
import Derived.Test.YtaednlggmjlaaaaGreatDoorTie
import Derived.ProofKit
import Derived.OpenShut
import Derived.LaidMore
import Derived.Lay
import Derived.SevenTiedAt
import Derived.Stop.Joined
namespace Go.Proofs.YtaednlggmjlaaaaGreatDoor
open Go.ChangeShapes Go.WideShapes Go.ChangeAt Go.RowKit

theorem bodyNames_row : Rows.BodyNamesSaid :=
  OpenClaim.holds_of_wide 3 Tryz.f3 rfl rfl rfl rfl rfl rfl rfl ⟨rfl, rfl, rfl, rfl, rfl⟩ rfl rfl rfl rfl rfl (by kernel_rfl) Tryz.func3 bodyNames_closed
    (of_decide_eq_true (by kernel_rfl)) (by unfold Func.isWrapper; first | (rw [if_pos (by decide +kernel)]; kernel_rfl) | (rw [if_neg (by decide +kernel)]; exact ⟨rfl, rfl⟩))
    (fun os started H enc _ => bodyNames_lifted os started H enc)

theorem bodyNames_holds : Rows.BodyNamesCardSaid :=
  Claim7.holds_tied_plain_at .later [] [.data, .data, .data, .sentinel, .sentinel, .listed, .data] true (true, "af08db9d5389d375f3aa33e544b8364f23bfc1152bfd987f4e6657f6800d6f1c") true
    bodyNames_row (fun _ h => by cases h) (by kernel_rfl) (fun _ h => by cases h) bodyNames_row_tie rfl ⟨rfl, rfl⟩ (by kernel_rfl) rfl
    (fun f fn hf hfn => by
      obtain rfl : f = 3 := Option.some.inj ((show Tryz.prog.funcNamed "quoin/quoinlaw14.BodyNames" = some 3 by kernel_rfl).symm.trans hf) |>.symm
      obtain rfl : fn = Tryz.f3 := (Option.some.inj (Tryz.func3.symm.trans hfn)).symm
      exact ⟨by kernel_rfl, fun j t ht => by
        rw [Tryz.params3] at ht
        simp at ht⟩)
    (by kernel_rfl)
#print axioms bodyNames_holds
end Go.Proofs.YtaednlggmjlaaaaGreatDoor
