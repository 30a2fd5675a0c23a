/- laid for this seat: VtEnds3 -/
import Derived.Test.YtaednlggmjlaaaaGreatDoorVtEnds2
/- BodyEnds: the law's walk. -/
set_option maxRecDepth 100000
set_option linter.unusedVariables false
set_option linter.unusedSimpArgs false
namespace Go.VM
open Go.RowKit
theorem ends_law (l : List ST) (ok : okSs l) (hlen : l.length ≤ 9223372036854775807) {k : IntKind} {zs : List Int} (haw : ∀ (nx : Nat) (lc : LM), SCall Go.Proofs.Tryz.prog [0] 5 [] none ⟨nx, og [(0, .cells false (tabO k zs))], lc⟩ (.ret (.bool true)) none ⟨nx, og [(0, .cells false (tabO k zs))], lc⟩) :
  SCall Go.Proofs.Tryz.prog [0] 4 [.lst (encSs l) .unk] none (hT 0 k zs) (.ret (.bool true)) none (hT 0 k zs) := by
 refine SCall.listed (fn := Go.Proofs.Tryz.f4) (by kernel_rfl) res4 (by kernel_rfl) (by kernel_rfl) (Nat.le_refl _) rfl (by exact ⟨tabO_in, trivial⟩) trivial ?_
 unfold rc4
 refine WR.seq (WR.reg (WQ.runS [] 1000 _ _ _ _ rfl (WQ.nilS ?_)))
 refine WR.seq (WR.reg (WQ.callH rfl rfl rfl rfl rfl (haw _ _) .base rfl (WQ.runS [] 1000 _ _ _ _ rfl (WQ.nilS ?_))))
 refine WR.seq (WR.seq (WR.reg (WQ.runS [] 1 _ _ _ _ rfl ?_)))
 refine WQ.callH rfl rfl rfl rfl rfl (stmts_spec (szSs l) l (Nat.le_refl _) ok 0 (by omega) _).more .base rfl (WQ.runS [] 1000 _ _ _ _ rfl (WQ.nilS ?_))
 refine WR.cond rfl (fun c => ?_) (fun c => ?_)
 ·repeat (first | refine WR.seq ?_ | refine WR.block ?_ | refine WR.scope ?_ | refine WR.skip ?_ | refine WR.exit ?_ | refine WR.condT rfl ?_ | refine WR.condF rfl ?_ | refine WR.reg (WQ.runS [] 1000 _ _ _ _ rfl ?_) | refine WQ.nilS ?_ | refine WR.dreg hmix (DW.runS [] 1000 _ _ _ _ _ _ rfl ?_))
  exact WR.ret ⟨rfl, rfl, ⟨_, rfl, VLe.refl _⟩, fun _ _ => rfl⟩
 refine WR.skip ?_
 refine WR.seq (WR.reg (WQ.runS [] 3 _ _ _ _ rfl ?_))
 refine WQ.callH rfl rfl rfl rfl rfl (ends7 (szSs l) l (Nat.le_refl _) ok hlen _).more .base rfl (WQ.runS [] 1 _ _ _ _ rfl ?_)
 refine WQ.callH rfl rfl rfl rfl rfl (ends8 (szSs l) l (Nat.le_refl _) ok hlen _).more .base rfl ?_
 cases endL l with
 | false =>
  refine WQ.runS [] 1000 _ _ _ _ rfl (WQ.nilS ?_)
  exact WR.ret ⟨rfl, rfl, ⟨_, rfl, VLe.refl _⟩, fun _ _ => rfl⟩
 | true =>
  refine WQ.runS [] 1000 _ _ _ _ rfl (WQ.nilS ?_)
  exact WR.ret ⟨rfl, rfl, ⟨_, rfl, VLe.refl _⟩, fun _ _ => rfl⟩
end Go.VM
