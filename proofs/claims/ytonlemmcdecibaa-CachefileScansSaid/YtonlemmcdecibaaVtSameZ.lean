/- laid for this seat: VtSameZ -/
import Derived.Test.YtonlemmcdecibaaRcRef
import Derived.Test.YtonlemmcdecibaaVtRunR
/- Two lists of entries that are the same. -/
set_option maxRecDepth 100000
set_option linter.unusedVariables false
set_option linter.unusedSimpArgs false
namespace Go.VM
open Go.RowKit
def eTz (l : List EZ) (i : Nat) : TM := [(0, .v (.lst (l.map encZ) .unk)), (1, .v (.lst (l.map encZ) .unk)), (5, .v (.int .i64 i))]
theorem sameZ_loop (l : List EZ) (hl : l.length ≤ 1000000) {QN : S → Prop} {QX : X → S → Prop} (hx : ∀ tm, QX (.exit 0) (SL.toS ⟨tm, [], none, 1000, [], []⟩)) : ∀ n i : Nat, i + n = l.length →
  WLr Go.Proofs.Try.prog [] ⟨Go.Proofs.Try.f14.ntmps, none, 14⟩ rc14_L1 (SL.toS ⟨eTz l i, [], none, 1000, [], []⟩) QN QX := by
 intro n
 induction n with
 | zero =>
  intro i hi
  unfold rc14_L1
  refine WLr.of ?_
  refine WR.seq (WR.seq (WR.reg (WQ.runS [] 1000 _ _ _ _ rfl (WQ.nilS ?_))))
  rw [show decide ((i : Int) < ((l.map encZ).length : Int)) = false from decide_eq_false (by rw [List.length_map]; omega)]
  repeat (first | refine WR.seq ?_ | refine WR.block ?_ | refine WR.scope ?_ | refine WR.skip ?_ | refine WR.exit ?_ | refine WR.condT rfl ?_ | refine WR.condF rfl ?_ | refine WR.reg (WQ.runS [] 1000 _ _ _ _ rfl ?_) | refine WQ.nilS ?_ | refine WR.dreg hmix (DW.runS [] 1000 _ _ _ _ _ _ rfl ?_))
  exact hx _
 | succ n ih =>
  intro i hi
  have hlt : i < l.length := by omega
  have hg : (l.map encZ)[i]? = some (encZ l[i]) := by simp [hlt]
  generalize l[i] = e at hg
  obtain ⟨k, v, lv, la⟩ := e
  unfold rc14_L1
  refine WLr.of ?_
  refine WR.seq (WR.seq (WR.reg (WQ.runS [] 1000 _ _ _ _ rfl (WQ.nilS ?_))))
  rw [show decide ((i : Int) < ((l.map encZ).length : Int)) = true from decide_eq_true (by rw [List.length_map]; omega)]
  refine WR.condT rfl (WR.skip ?_)
  refine WR.seq (WR.block (WR.seq (WR.dreg hmix2 (DW.runS [] 2 _ _ _ _ _ _ rfl ?_))))
  refine DW.pureS rfl (fun h => ia_at rfl rfl hg rfl) rfl (DW.runS [] 3 _ _ _ _ _ _ rfl ?_)
  refine DW.pureS rfl (fun h => ia_at rfl rfl hg rfl) rfl (DW.runS [] 1000 _ _ _ _ _ _ rfl ?_)
  refine DW.finS (by repeat (first | exact .nil | refine PendR.passM rfl ?_ | refine PendR.sameM rfl ?_ | refine PendR.lightM rfl ?_)) ?_
  refine WR.cond rfl (fun h2 => ?_) (fun h2 => ?_)
  ·simp at h2
  ·refine WR.skip ?_
   unfold rc14_J1
   repeat (first | refine WR.seq ?_ | refine WR.block ?_ | refine WR.scope ?_ | refine WR.skip ?_ | refine WR.exit ?_ | refine WR.condT rfl ?_ | refine WR.condF rfl ?_ | refine WR.reg (WQ.runS [] 1000 _ _ _ _ rfl ?_) | refine WQ.nilS ?_ | refine WR.dreg hmix (DW.runS [] 1000 _ _ _ _ _ _ rfl ?_))
   rw [show IntKind.i64.wrap ((i : Int) + 1) = ((i + 1 : Nat) : Int) from by rw [wrap64 (by omega) (by omega)]; rfl]
   refine WIr.again (WLr.weak ?_ (ih (i + 1) (by omega)))
   refine SW.tellR ?_ ?_
   ·repeat (first | exact .nil | refine .cons rfl (.v (VLe.refl _)) ?_ | refine .cons rfl (.l _ _ rfl) ?_ | refine .cons rfl (.v (VLe.unk _ _)) ?_)
   ·repeat (first | exact .nil | refine .cons rfl (.inl rfl) ?_)
theorem sameZ_spec (l : List EZ) (hl : l.length ≤ 1000000) (h : H) : SCall Go.Proofs.Try.prog [] 14 [.lst (l.map encZ) .unk, .lst (l.map encZ) .unk] none h (.ret (.bool true)) none h := by
 refine SCall.pure0 rfl ?_ (by exact ⟨⟨encZs_in l, trivial⟩, ⟨encZs_in l, trivial⟩, trivial⟩) (by exact trivial) h
 refine SCall.listed (fn := Go.Proofs.Try.f14) (by kernel_rfl) res14 (by kernel_rfl) (by kernel_rfl) (Nat.le_refl _) rfl (trivial) trivial ?_
 unfold rc14
 refine WR.seq (WR.reg (WQ.runS [] 1000 _ _ _ _ rfl (WQ.nilS ?_)))
 refine WR.seq (WR.seq (WR.reg (WQ.runS [] 1000 _ _ _ _ rfl (WQ.nilS ?_))))
 rw [show decide (((l.map encZ).length : Int) = ((l.map encZ).length : Int)) = true from decide_eq_true rfl]
 refine WR.condF rfl (WR.skip ?_)
 refine WR.seq (WR.seq (WR.reg (WQ.runS [] 1000 _ _ _ _ rfl (WQ.nilS ?_))))
 refine WR.block (WR.loop (WLr.weak (s := SL.toS ⟨eTz l 0, [], none, 1000, [], []⟩) ?_ (sameZ_loop l hl (fun tm => ?_) l.length 0 (by omega))))
 ·refine SW.tellR ?_ ?_
  ·repeat (first | exact .nil | refine .cons rfl (.v (VLe.refl _)) ?_ | refine .cons rfl (.l _ _ rfl) ?_ | refine .cons rfl (.v (VLe.unk _ _)) ?_)
  ·repeat (first | exact .nil | refine .cons rfl (.inl rfl) ?_)
 refine WR.weak (s := SL.toS ⟨[], [], none, 1000, [], []⟩) (SW.tellR .nil .nil) ?_
 unfold rc14_J2
 repeat (first | refine WR.seq ?_ | refine WR.block ?_ | refine WR.scope ?_ | refine WR.skip ?_ | refine WR.exit ?_ | refine WR.condT rfl ?_ | refine WR.condF rfl ?_ | refine WR.reg (WQ.runS [] 1000 _ _ _ _ rfl ?_) | refine WQ.nilS ?_ | refine WR.dreg hmix (DW.runS [] 1000 _ _ _ _ _ _ rfl ?_))
 refine WR.ret ⟨rfl, rfl, ⟨_, rfl, VLe.refl _⟩, fun b _ => rfl⟩
end Go.VM
