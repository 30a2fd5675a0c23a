/- The law exprxNames is true, in every world whose listed variables are as the program lays them. No other condition. -/
import Derived.Test.YtipiffhjilidlaaDoorExprxNamesLift
import Derived.Test.YtipiffhjilidlaaDoorExprxNamesJe
import Derived.Test.YtipiffhjilidlaaDoorCards
import Derived.Test.YtipiffhjilidlaaDoorTie
import Derived.ProofKit
import Derived.OpenShut
import Derived.LaidMore
import Derived.Lay
import Derived.SevenTiedAt
import Derived.Stop.Joined
namespace Go.Proofs.YtipiffhjilidlaaDoor
open Go.ChangeShapes Go.WideShapes Go.ChangeAt Go.RowKit

theorem exprxNames_row : Rows.ExprxNamesSaid :=
  OpenClaim.holds_of_wide 3 Tryd.f3 rfl rfl rfl rfl rfl rfl rfl ⟨rfl, rfl, rfl, rfl, rfl⟩ rfl rfl rfl rfl rfl (by kernel_rfl) Tryd.func3 exprxNames_closed
    (of_decide_eq_true (by kernel_rfl)) (by unfold Func.isWrapper; first | (rw [if_pos (by decide +kernel)]; kernel_rfl) | (rw [if_neg (by decide +kernel)]; exact ⟨rfl, rfl⟩))
    (fun os started H enc _ => exprxNames_lifted os started H enc)

theorem exprxNames_holds : Rows.ExprxNamesCardSaid :=
  Claim7.holds_tied_plain_at .later [] [.data, .data, .data, .sentinel, .sentinel, .listed, .data] true (true, "4ce60ba05452a857bddc1a541d22ed97cf49483ef16069668c4adeffdd4368ca") true
    exprxNames_row (fun _ h => by cases h) (by kernel_rfl) (fun _ h => by cases h) exprxNames_row_tie rfl ⟨rfl, rfl⟩ (by kernel_rfl) rfl
    (fun f fn hf hfn => by
      obtain rfl : f = 3 := Option.some.inj ((show Tryd.prog.funcNamed "quoin/quoinlaw04.ExprxNames" = some 3 by kernel_rfl).symm.trans hf) |>.symm
      obtain rfl : fn = Tryd.f3 := (Option.some.inj (Tryd.func3.symm.trans hfn)).symm
      exact ⟨by kernel_rfl, fun j t ht => by
        rw [Tryd.params3] at ht
        simp at ht⟩)
    (by kernel_rfl)
#print axioms exprxNames_holds
end Go.Proofs.YtipiffhjilidlaaDoor
