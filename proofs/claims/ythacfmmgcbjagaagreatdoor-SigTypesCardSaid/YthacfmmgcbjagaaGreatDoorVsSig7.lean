/- laid for this seat: VsSig7 -/
import Derived.Test.YthacfmmgcbjagaaGreatDoorVsSig6
/- What a type of a text means: the program's function tells what the document's tells. -/
set_option maxRecDepth 100000
set_option linter.unusedVariables false
set_option linter.unusedSimpArgs false
namespace Go.VM
open Go.RowKit
theorem type_spec (s : SCx) (ok : okSc s) : ∀ (N : Nat) (x : TX), depT x ≤ N → ∀ h : H, SCall Go.Proofs.Tryz.prog [] 10 [.agg (encSc s), .agg (encT x)] none h (.ret (encD2 (typeF s x))) none h := by
 intro N
 induction N with
 | zero =>
  intro x hd h
  obtain ⟨k, a, p, n, l⟩ := x
  refine SCall.pure0 rfl ?_ (by exact ⟨ok.ins, encT_in _, trivial⟩) (by exact encD2_in _) h
  cases l with
  | cons y r => simp [depT] at hd
  | nil =>
  refine SCall.listed (fn := Go.Proofs.Tryz.f10) (by kernel_rfl) res10 (by kernel_rfl) (by kernel_rfl) (Nat.le_refl _) rfl (trivial) (by exact encD2_in _) ?_
  unfold rc10
  rw [typeF]
  repeat (first | refine WR.seq ?_ | refine WR.block ?_ | refine WR.scope ?_ | refine WR.skip ?_ | refine WR.exit ?_ | refine WR.condT rfl ?_ | refine WR.condF rfl ?_ | refine WR.reg (WQ.runS [] 1000 _ _ _ _ rfl ?_) | refine WQ.nilS ?_ | refine WR.dreg hmix (DW.runS [] 1000 _ _ _ _ _ _ rfl ?_))
  refine WR.cond rfl (fun c1 => ?_) (fun c1 => ?_)
  ·have c1 : k = 1 := of_decide_eq_true c1
   rw [if_pos c1]
   repeat (first | refine WR.seq ?_ | refine WR.block ?_ | refine WR.scope ?_ | refine WR.skip ?_ | refine WR.exit ?_ | refine WR.condT rfl ?_ | refine WR.condF rfl ?_ | refine WR.reg (WQ.runS [] 1000 _ _ _ _ rfl ?_) | refine WQ.nilS ?_ | refine WR.dreg hmix (DW.runS [] 1000 _ _ _ _ _ _ rfl ?_))
   exact WR.ret ⟨rfl, rfl, ⟨_, rfl, by repeat (first | exact VLe.refl _ | exact VLe.unk _ _ | refine VLe.tup ?_ | refine VLe.agg ?_ | exact VLL.nil | refine VLL.cons ?_ ?_)⟩, fun b hb => rfl⟩
  have c1 : ¬ k = 1 := of_decide_eq_false c1
  rw [if_neg c1]
  repeat (first | refine WR.seq ?_ | refine WR.block ?_ | refine WR.scope ?_ | refine WR.skip ?_ | refine WR.exit ?_ | refine WR.condT rfl ?_ | refine WR.condF rfl ?_ | refine WR.reg (WQ.runS [] 1000 _ _ _ _ rfl ?_) | refine WQ.nilS ?_ | refine WR.dreg hmix (DW.runS [] 1000 _ _ _ _ _ _ rfl ?_))
  refine WR.cond rfl (fun c2 => ?_) (fun c2 => ?_)
  ·have c2 : k = 2 := of_decide_eq_true c2
   rw [if_pos c2]
   repeat (first | refine WR.seq ?_ | refine WR.block ?_ | refine WR.scope ?_ | refine WR.skip ?_ | refine WR.exit ?_ | refine WR.condT rfl ?_ | refine WR.condF rfl ?_ | refine WR.reg (WQ.runS [] 1000 _ _ _ _ rfl ?_) | refine WQ.nilS ?_ | refine WR.dreg hmix (DW.runS [] 1000 _ _ _ _ _ _ rfl ?_))
   exact WR.ret ⟨rfl, rfl, ⟨_, rfl, by repeat (first | exact VLe.refl _ | exact VLe.unk _ _ | refine VLe.tup ?_ | refine VLe.agg ?_ | exact VLL.nil | refine VLL.cons ?_ ?_)⟩, fun b hb => rfl⟩
  have c2 : ¬ k = 2 := of_decide_eq_false c2
  rw [if_neg c2]
  repeat (first | refine WR.seq ?_ | refine WR.block ?_ | refine WR.scope ?_ | refine WR.skip ?_ | refine WR.exit ?_ | refine WR.condT rfl ?_ | refine WR.condF rfl ?_ | refine WR.reg (WQ.runS [] 1000 _ _ _ _ rfl ?_) | refine WQ.nilS ?_ | refine WR.dreg hmix (DW.runS [] 1000 _ _ _ _ _ _ rfl ?_))
  refine WR.cond rfl (fun c3 => ?_) (fun c3 => ?_)
  ·have c3 : k = 3 := of_decide_eq_true c3
   rw [if_pos c3]
   repeat (first | refine WR.seq ?_ | refine WR.block ?_ | refine WR.scope ?_ | refine WR.skip ?_ | refine WR.exit ?_ | refine WR.condT rfl ?_ | refine WR.condF rfl ?_ | refine WR.reg (WQ.runS [] 1000 _ _ _ _ rfl ?_) | refine WQ.nilS ?_ | refine WR.dreg hmix (DW.runS [] 1000 _ _ _ _ _ _ rfl ?_))
   exact WR.ret ⟨rfl, rfl, ⟨_, rfl, by repeat (first | exact VLe.refl _ | exact VLe.unk _ _ | refine VLe.tup ?_ | refine VLe.agg ?_ | exact VLL.nil | refine VLL.cons ?_ ?_)⟩, fun b hb => rfl⟩
  have c3 : ¬ k = 3 := of_decide_eq_false c3
  rw [if_neg c3]
  repeat (first | refine WR.seq ?_ | refine WR.block ?_ | refine WR.scope ?_ | refine WR.skip ?_ | refine WR.exit ?_ | refine WR.condT rfl ?_ | refine WR.condF rfl ?_ | refine WR.reg (WQ.runS [] 1000 _ _ _ _ rfl ?_) | refine WQ.nilS ?_ | refine WR.dreg hmix (DW.runS [] 1000 _ _ _ _ _ _ rfl ?_))
  refine WR.cond rfl (fun c5 => ?_) (fun c5 => ?_)
  rotate_left
  ·have c5 : ¬ k = 5 := of_decide_eq_false c5
   rw [if_neg c5]
   refine WR.seq (WR.reg (WQ.runS [] 1000 _ _ _ _ rfl (WQ.nilS ?_)))
   refine WR.cond rfl (fun c4 => ?_) (fun c4 => ?_)
   ·have c4 : k = 4 := of_decide_eq_true c4
    rw [if_pos c4]
    refine WR.skip ?_
    refine WR.weak (s := SL.toS ⟨tyT, [], none, 1000, [], nmLc s k a p n []⟩) ?_ (nameP s ok k a p n [] (fun st q => q))
    refine SW.tellR ?_ ?_
    ·repeat (first | exact .nil | refine .cons rfl (.v (VLe.refl _)) ?_ | refine .cons rfl (.l _ _ rfl) ?_ | refine .cons rfl (.v (VLe.unk _ _)) ?_)
    ·repeat (first | exact .nil | refine .cons rfl (.inl rfl) ?_)
   ·have c4 : ¬ k = 4 := of_decide_eq_false c4
    rw [if_neg c4]
    repeat (first | refine WR.seq ?_ | refine WR.block ?_ | refine WR.scope ?_ | refine WR.skip ?_ | refine WR.exit ?_ | refine WR.condT rfl ?_ | refine WR.condF rfl ?_ | refine WR.reg (WQ.runS [] 1000 _ _ _ _ rfl ?_) | refine WQ.nilS ?_ | refine WR.dreg hmix (DW.runS [] 1000 _ _ _ _ _ _ rfl ?_))
    exact WR.ret ⟨rfl, rfl, ⟨_, rfl, by repeat (first | exact VLe.refl _ | exact VLe.unk _ _ | refine VLe.tup ?_ | refine VLe.agg ?_ | exact VLL.nil | refine VLL.cons ?_ ?_)⟩, fun b hb => rfl⟩
  have c5 : k = 5 := of_decide_eq_true c5
  rw [if_pos c5]
  repeat (first | refine WR.seq ?_ | refine WR.block ?_ | refine WR.scope ?_ | refine WR.skip ?_ | refine WR.exit ?_ | refine WR.condT rfl ?_ | refine WR.condF rfl ?_ | refine WR.reg (WQ.runS [] 1000 _ _ _ _ rfl ?_) | refine WQ.nilS ?_ | refine WR.dreg hmix (DW.runS [] 1000 _ _ _ _ _ _ rfl ?_))
  refine DW.stS (by repeat (first | exact .nil | refine PendR.passM rfl ?_ | refine PendR.sameM rfl ?_ | refine PendR.lightM rfl ?_)) rfl rfl rfl rfl (DW.runS [] 1000 _ _ _ _ _ _ rfl ?_)
  refine DW.stS (by repeat (first | exact .nil | refine PendR.passM rfl ?_ | refine PendR.sameM rfl ?_ | refine PendR.lightM rfl ?_)) rfl rfl rfl rfl (DW.runS [] 1000 _ _ _ _ _ _ rfl ?_)
  refine DW.finS (by repeat (first | exact .nil | refine PendR.passM rfl ?_ | refine PendR.sameM rfl ?_ | refine PendR.lightM rfl ?_)) ?_
  exact WR.ret ⟨rfl, rfl, ⟨_, rfl, by repeat (first | exact VLe.refl _ | exact VLe.unk _ _ | refine VLe.tup ?_ | refine VLe.agg ?_ | exact VLL.nil | refine VLL.cons ?_ ?_)⟩, fun b hb => rfl⟩
 | succ N ih =>
  intro x hd h
  obtain ⟨k, a, p, n, l⟩ := x
  refine SCall.pure0 rfl ?_ (by exact ⟨ok.ins, encT_in _, trivial⟩) (by exact encD2_in _) h
  cases l with
  | nil =>
   refine SCall.listed (fn := Go.Proofs.Tryz.f10) (by kernel_rfl) res10 (by kernel_rfl) (by kernel_rfl) (Nat.le_refl _) rfl (trivial) (by exact encD2_in _) ?_
   unfold rc10
   rw [typeF]
   repeat (first | refine WR.seq ?_ | refine WR.block ?_ | refine WR.scope ?_ | refine WR.skip ?_ | refine WR.exit ?_ | refine WR.condT rfl ?_ | refine WR.condF rfl ?_ | refine WR.reg (WQ.runS [] 1000 _ _ _ _ rfl ?_) | refine WQ.nilS ?_ | refine WR.dreg hmix (DW.runS [] 1000 _ _ _ _ _ _ rfl ?_))
   refine WR.cond rfl (fun c1 => ?_) (fun c1 => ?_)
   ·have c1 : k = 1 := of_decide_eq_true c1
    rw [if_pos c1]
    repeat (first | refine WR.seq ?_ | refine WR.block ?_ | refine WR.scope ?_ | refine WR.skip ?_ | refine WR.exit ?_ | refine WR.condT rfl ?_ | refine WR.condF rfl ?_ | refine WR.reg (WQ.runS [] 1000 _ _ _ _ rfl ?_) | refine WQ.nilS ?_ | refine WR.dreg hmix (DW.runS [] 1000 _ _ _ _ _ _ rfl ?_))
    exact WR.ret ⟨rfl, rfl, ⟨_, rfl, by repeat (first | exact VLe.refl _ | exact VLe.unk _ _ | refine VLe.tup ?_ | refine VLe.agg ?_ | exact VLL.nil | refine VLL.cons ?_ ?_)⟩, fun b hb => rfl⟩
   have c1 : ¬ k = 1 := of_decide_eq_false c1
   rw [if_neg c1]
   repeat (first | refine WR.seq ?_ | refine WR.block ?_ | refine WR.scope ?_ | refine WR.skip ?_ | refine WR.exit ?_ | refine WR.condT rfl ?_ | refine WR.condF rfl ?_ | refine WR.reg (WQ.runS [] 1000 _ _ _ _ rfl ?_) | refine WQ.nilS ?_ | refine WR.dreg hmix (DW.runS [] 1000 _ _ _ _ _ _ rfl ?_))
   refine WR.cond rfl (fun c2 => ?_) (fun c2 => ?_)
   ·have c2 : k = 2 := of_decide_eq_true c2
    rw [if_pos c2]
    repeat (first | refine WR.seq ?_ | refine WR.block ?_ | refine WR.scope ?_ | refine WR.skip ?_ | refine WR.exit ?_ | refine WR.condT rfl ?_ | refine WR.condF rfl ?_ | refine WR.reg (WQ.runS [] 1000 _ _ _ _ rfl ?_) | refine WQ.nilS ?_ | refine WR.dreg hmix (DW.runS [] 1000 _ _ _ _ _ _ rfl ?_))
    exact WR.ret ⟨rfl, rfl, ⟨_, rfl, by repeat (first | exact VLe.refl _ | exact VLe.unk _ _ | refine VLe.tup ?_ | refine VLe.agg ?_ | exact VLL.nil | refine VLL.cons ?_ ?_)⟩, fun b hb => rfl⟩
   have c2 : ¬ k = 2 := of_decide_eq_false c2
   rw [if_neg c2]
   repeat (first | refine WR.seq ?_ | refine WR.block ?_ | refine WR.scope ?_ | refine WR.skip ?_ | refine WR.exit ?_ | refine WR.condT rfl ?_ | refine WR.condF rfl ?_ | refine WR.reg (WQ.runS [] 1000 _ _ _ _ rfl ?_) | refine WQ.nilS ?_ | refine WR.dreg hmix (DW.runS [] 1000 _ _ _ _ _ _ rfl ?_))
   refine WR.cond rfl (fun c3 => ?_) (fun c3 => ?_)
   ·have c3 : k = 3 := of_decide_eq_true c3
    rw [if_pos c3]
    repeat (first | refine WR.seq ?_ | refine WR.block ?_ | refine WR.scope ?_ | refine WR.skip ?_ | refine WR.exit ?_ | refine WR.condT rfl ?_ | refine WR.condF rfl ?_ | refine WR.reg (WQ.runS [] 1000 _ _ _ _ rfl ?_) | refine WQ.nilS ?_ | refine WR.dreg hmix (DW.runS [] 1000 _ _ _ _ _ _ rfl ?_))
    exact WR.ret ⟨rfl, rfl, ⟨_, rfl, by repeat (first | exact VLe.refl _ | exact VLe.unk _ _ | refine VLe.tup ?_ | refine VLe.agg ?_ | exact VLL.nil | refine VLL.cons ?_ ?_)⟩, fun b hb => rfl⟩
   have c3 : ¬ k = 3 := of_decide_eq_false c3
   rw [if_neg c3]
   repeat (first | refine WR.seq ?_ | refine WR.block ?_ | refine WR.scope ?_ | refine WR.skip ?_ | refine WR.exit ?_ | refine WR.condT rfl ?_ | refine WR.condF rfl ?_ | refine WR.reg (WQ.runS [] 1000 _ _ _ _ rfl ?_) | refine WQ.nilS ?_ | refine WR.dreg hmix (DW.runS [] 1000 _ _ _ _ _ _ rfl ?_))
   refine WR.cond rfl (fun c5 => ?_) (fun c5 => ?_)
   rotate_left
   ·have c5 : ¬ k = 5 := of_decide_eq_false c5
    rw [if_neg c5]
    refine WR.seq (WR.reg (WQ.runS [] 1000 _ _ _ _ rfl (WQ.nilS ?_)))
    refine WR.cond rfl (fun c4 => ?_) (fun c4 => ?_)
    ·have c4 : k = 4 := of_decide_eq_true c4
     rw [if_pos c4]
     refine WR.skip ?_
     refine WR.weak (s := SL.toS ⟨tyT, [], none, 1000, [], nmLc s k a p n []⟩) ?_ (nameP s ok k a p n [] (fun st q => q))
     refine SW.tellR ?_ ?_
     ·repeat (first | exact .nil | refine .cons rfl (.v (VLe.refl _)) ?_ | refine .cons rfl (.l _ _ rfl) ?_ | refine .cons rfl (.v (VLe.unk _ _)) ?_)
     ·repeat (first | exact .nil | refine .cons rfl (.inl rfl) ?_)
    ·have c4 : ¬ k = 4 := of_decide_eq_false c4
     rw [if_neg c4]
     repeat (first | refine WR.seq ?_ | refine WR.block ?_ | refine WR.scope ?_ | refine WR.skip ?_ | refine WR.exit ?_ | refine WR.condT rfl ?_ | refine WR.condF rfl ?_ | refine WR.reg (WQ.runS [] 1000 _ _ _ _ rfl ?_) | refine WQ.nilS ?_ | refine WR.dreg hmix (DW.runS [] 1000 _ _ _ _ _ _ rfl ?_))
     exact WR.ret ⟨rfl, rfl, ⟨_, rfl, by repeat (first | exact VLe.refl _ | exact VLe.unk _ _ | refine VLe.tup ?_ | refine VLe.agg ?_ | exact VLL.nil | refine VLL.cons ?_ ?_)⟩, fun b hb => rfl⟩
   have c5 : k = 5 := of_decide_eq_true c5
   rw [if_pos c5]
   repeat (first | refine WR.seq ?_ | refine WR.block ?_ | refine WR.scope ?_ | refine WR.skip ?_ | refine WR.exit ?_ | refine WR.condT rfl ?_ | refine WR.condF rfl ?_ | refine WR.reg (WQ.runS [] 1000 _ _ _ _ rfl ?_) | refine WQ.nilS ?_ | refine WR.dreg hmix (DW.runS [] 1000 _ _ _ _ _ _ rfl ?_))
   refine DW.stS (by repeat (first | exact .nil | refine PendR.passM rfl ?_ | refine PendR.sameM rfl ?_ | refine PendR.lightM rfl ?_)) rfl rfl rfl rfl (DW.runS [] 1000 _ _ _ _ _ _ rfl ?_)
   refine DW.stS (by repeat (first | exact .nil | refine PendR.passM rfl ?_ | refine PendR.sameM rfl ?_ | refine PendR.lightM rfl ?_)) rfl rfl rfl rfl (DW.runS [] 1000 _ _ _ _ _ _ rfl ?_)
   refine DW.finS (by repeat (first | exact .nil | refine PendR.passM rfl ?_ | refine PendR.sameM rfl ?_ | refine PendR.lightM rfl ?_)) ?_
   exact WR.ret ⟨rfl, rfl, ⟨_, rfl, by repeat (first | exact VLe.refl _ | exact VLe.unk _ _ | refine VLe.tup ?_ | refine VLe.agg ?_ | exact VLL.nil | refine VLL.cons ?_ ?_)⟩, fun b hb => rfl⟩
  | cons y r =>
   refine SCall.listed (fn := Go.Proofs.Tryz.f10) (by kernel_rfl) res10 (by kernel_rfl) (by kernel_rfl) (Nat.le_refl _) rfl (trivial) (by exact encD2_in _) ?_
   unfold rc10
   have sub := ih y (by simp only [depT] at hd; omega)
   rw [typeF]
   repeat (first | refine WR.seq ?_ | refine WR.block ?_ | refine WR.scope ?_ | refine WR.skip ?_ | refine WR.exit ?_ | refine WR.condT rfl ?_ | refine WR.condF rfl ?_ | refine WR.reg (WQ.runS [] 1000 _ _ _ _ rfl ?_) | refine WQ.nilS ?_ | refine WR.dreg hmix (DW.runS [] 1000 _ _ _ _ _ _ rfl ?_))
   refine WR.cond rfl (fun c1 => ?_) (fun c1 => ?_)
   ·have c1 : k = 1 := of_decide_eq_true c1
    rw [if_pos c1]
    repeat (first | refine WR.seq ?_ | refine WR.block ?_ | refine WR.scope ?_ | refine WR.skip ?_ | refine WR.exit ?_ | refine WR.condT rfl ?_ | refine WR.condF rfl ?_ | refine WR.reg (WQ.runS [] 1000 _ _ _ _ rfl ?_) | refine WQ.nilS ?_ | refine WR.dreg hmix (DW.runS [] 1000 _ _ _ _ _ _ rfl ?_))
    exact WR.ret ⟨rfl, rfl, ⟨_, rfl, by repeat (first | exact VLe.refl _ | exact VLe.unk _ _ | refine VLe.tup ?_ | refine VLe.agg ?_ | exact VLL.nil | refine VLL.cons ?_ ?_)⟩, fun b hb => rfl⟩
   have c1 : ¬ k = 1 := of_decide_eq_false c1
   rw [if_neg c1]
   repeat (first | refine WR.seq ?_ | refine WR.block ?_ | refine WR.scope ?_ | refine WR.skip ?_ | refine WR.exit ?_ | refine WR.condT rfl ?_ | refine WR.condF rfl ?_ | refine WR.reg (WQ.runS [] 1000 _ _ _ _ rfl ?_) | refine WQ.nilS ?_ | refine WR.dreg hmix (DW.runS [] 1000 _ _ _ _ _ _ rfl ?_))
   refine WR.cond rfl (fun c2 => ?_) (fun c2 => ?_)
   ·have c2 : k = 2 := of_decide_eq_true c2
    rw [if_pos c2]
    repeat (first | refine WR.seq ?_ | refine WR.block ?_ | refine WR.scope ?_ | refine WR.skip ?_ | refine WR.exit ?_ | refine WR.condT rfl ?_ | refine WR.condF rfl ?_ | refine WR.reg (WQ.runS [] 1000 _ _ _ _ rfl ?_) | refine WQ.nilS ?_ | refine WR.dreg hmix (DW.runS [] 1000 _ _ _ _ _ _ rfl ?_))
    exact WR.ret ⟨rfl, rfl, ⟨_, rfl, by repeat (first | exact VLe.refl _ | exact VLe.unk _ _ | refine VLe.tup ?_ | refine VLe.agg ?_ | exact VLL.nil | refine VLL.cons ?_ ?_)⟩, fun b hb => rfl⟩
   have c2 : ¬ k = 2 := of_decide_eq_false c2
   rw [if_neg c2]
   repeat (first | refine WR.seq ?_ | refine WR.block ?_ | refine WR.scope ?_ | refine WR.skip ?_ | refine WR.exit ?_ | refine WR.condT rfl ?_ | refine WR.condF rfl ?_ | refine WR.reg (WQ.runS [] 1000 _ _ _ _ rfl ?_) | refine WQ.nilS ?_ | refine WR.dreg hmix (DW.runS [] 1000 _ _ _ _ _ _ rfl ?_))
   refine WR.cond rfl (fun c3 => ?_) (fun c3 => ?_)
   ·have c3 : k = 3 := of_decide_eq_true c3
    rw [if_pos c3]
    repeat (first | refine WR.seq ?_ | refine WR.block ?_ | refine WR.scope ?_ | refine WR.skip ?_ | refine WR.exit ?_ | refine WR.condT rfl ?_ | refine WR.condF rfl ?_ | refine WR.reg (WQ.runS [] 1000 _ _ _ _ rfl ?_) | refine WQ.nilS ?_ | refine WR.dreg hmix (DW.runS [] 1000 _ _ _ _ _ _ rfl ?_))
    exact WR.ret ⟨rfl, rfl, ⟨_, rfl, by repeat (first | exact VLe.refl _ | exact VLe.unk _ _ | refine VLe.tup ?_ | refine VLe.agg ?_ | exact VLL.nil | refine VLL.cons ?_ ?_)⟩, fun b hb => rfl⟩
   have c3 : ¬ k = 3 := of_decide_eq_false c3
   rw [if_neg c3]
   repeat (first | refine WR.seq ?_ | refine WR.block ?_ | refine WR.scope ?_ | refine WR.skip ?_ | refine WR.exit ?_ | refine WR.condT rfl ?_ | refine WR.condF rfl ?_ | refine WR.reg (WQ.runS [] 1000 _ _ _ _ rfl ?_) | refine WQ.nilS ?_ | refine WR.dreg hmix (DW.runS [] 1000 _ _ _ _ _ _ rfl ?_))
   refine WR.cond rfl (fun c5 => ?_) (fun c5 => ?_)
   rotate_left
   ·have c5 : ¬ k = 5 := of_decide_eq_false c5
    rw [if_neg c5]
    refine WR.seq (WR.reg (WQ.runS [] 1000 _ _ _ _ rfl (WQ.nilS ?_)))
    refine WR.cond rfl (fun c4 => ?_) (fun c4 => ?_)
    ·have c4 : k = 4 := of_decide_eq_true c4
     rw [if_pos c4]
     refine WR.skip ?_
     refine WR.weak (s := SL.toS ⟨tyT, [], none, 1000, [], nmLc s k a p n (y :: r)⟩) ?_ (nameP s ok k a p n (y :: r) (fun st q => q))
     refine SW.tellR ?_ ?_
     ·repeat (first | exact .nil | refine .cons rfl (.v (VLe.refl _)) ?_ | refine .cons rfl (.l _ _ rfl) ?_ | refine .cons rfl (.v (VLe.unk _ _)) ?_)
     ·repeat (first | exact .nil | refine .cons rfl (.inl rfl) ?_)
    ·have c4 : ¬ k = 4 := of_decide_eq_false c4
     rw [if_neg c4]
     repeat (first | refine WR.seq ?_ | refine WR.block ?_ | refine WR.scope ?_ | refine WR.skip ?_ | refine WR.exit ?_ | refine WR.condT rfl ?_ | refine WR.condF rfl ?_ | refine WR.reg (WQ.runS [] 1000 _ _ _ _ rfl ?_) | refine WQ.nilS ?_ | refine WR.dreg hmix (DW.runS [] 1000 _ _ _ _ _ _ rfl ?_))
     exact WR.ret ⟨rfl, rfl, ⟨_, rfl, by repeat (first | exact VLe.refl _ | exact VLe.unk _ _ | refine VLe.tup ?_ | refine VLe.agg ?_ | exact VLL.nil | refine VLL.cons ?_ ?_)⟩, fun b hb => rfl⟩
   have c5 : k = 5 := of_decide_eq_true c5
   rw [if_pos c5]
   obtain ⟨k2, a2, p2, n2, l2⟩ := y
   generalize typeF s (.mk k2 a2 p2 n2 l2) = T at sub ⊢
   repeat (first | refine WR.seq ?_ | refine WR.block ?_ | refine WR.scope ?_ | refine WR.skip ?_ | refine WR.exit ?_ | refine WR.condT rfl ?_ | refine WR.condF rfl ?_ | refine WR.reg (WQ.runS [] 1000 _ _ _ _ rfl ?_) | refine WQ.nilS ?_ | refine WR.dreg hmix (DW.runS [] 1000 _ _ _ _ _ _ rfl ?_))
   refine WR.cond rfl (fun c => ?_) (fun c => ?_)
   rotate_left
   ·have := of_decide_eq_false c
    rw [encTs_len] at this; simp at this; try omega
   repeat (first | refine WR.seq ?_ | refine WR.block ?_ | refine WR.scope ?_ | refine WR.skip ?_ | refine WR.exit ?_ | refine WR.condT rfl ?_ | refine WR.condF rfl ?_ | refine WR.reg (WQ.runS [] 1000 _ _ _ _ rfl ?_) | refine WQ.nilS ?_ | refine WR.dreg hmix (DW.runS [] 1000 _ _ _ _ _ _ rfl ?_))
   refine DW.callH (by repeat (first | exact .nil | refine PendR.passM rfl ?_ | refine PendR.sameM rfl ?_ | refine PendR.lightM rfl ?_)) rfl rfl rfl rfl rfl (sub _) .base rfl (DW.runS [] 1000 _ _ _ _ _ _ rfl ?_)
   refine DW.stS (by repeat (first | exact .nil | refine PendR.passM rfl ?_ | refine PendR.sameM rfl ?_ | refine PendR.lightM rfl ?_)) rfl rfl rfl rfl (DW.runS [] 1000 _ _ _ _ _ _ rfl ?_)
   refine DW.stS (by repeat (first | exact .nil | refine PendR.passM rfl ?_ | refine PendR.sameM rfl ?_ | refine PendR.lightM rfl ?_)) rfl rfl rfl rfl (DW.runS [] 1000 _ _ _ _ _ _ rfl ?_)
   refine DW.finS (by repeat (first | exact .nil | refine PendR.passM rfl ?_ | refine PendR.sameM rfl ?_ | refine PendR.lightM rfl ?_)) ?_
   show WR Go.Proofs.Tryz.prog [] _ rc10_J1 _ _ _
   unfold rc10_J1
   repeat (first | refine WR.seq ?_ | refine WR.block ?_ | refine WR.scope ?_ | refine WR.skip ?_ | refine WR.exit ?_ | refine WR.condT rfl ?_ | refine WR.condF rfl ?_ | refine WR.reg (WQ.runS [] 1000 _ _ _ _ rfl ?_) | refine WQ.nilS ?_ | refine WR.dreg hmix (DW.runS [] 1000 _ _ _ _ _ _ rfl ?_))
   refine DW.stS (by repeat (first | exact .nil | refine PendR.passM rfl ?_ | refine PendR.sameM rfl ?_ | refine PendR.lightM rfl ?_)) rfl rfl rfl rfl (DW.runS [] 1000 _ _ _ _ _ _ rfl ?_)
   refine DW.stS (by repeat (first | exact .nil | refine PendR.passM rfl ?_ | refine PendR.sameM rfl ?_ | refine PendR.lightM rfl ?_)) rfl rfl rfl rfl (DW.runS [] 1000 _ _ _ _ _ _ rfl ?_)
   refine DW.finS (by repeat (first | exact .nil | refine PendR.passM rfl ?_ | refine PendR.sameM rfl ?_ | refine PendR.lightM rfl ?_)) ?_
   exact WR.ret ⟨rfl, rfl, ⟨_, rfl, by repeat (first | exact VLe.refl _ | exact VLe.unk _ _ | refine VLe.tup ?_ | refine VLe.agg ?_ | exact VLL.nil | refine VLL.cons ?_ ?_)⟩, fun b hb => rfl⟩
theorem equal_spec : ∀ (t : TyM) (h : H), SCall Go.Proofs.Tryz.prog [] 12 [.agg (encR t), .agg (encR t)] none h (.ret (.bool true)) none h := by
 intro t
 induction t with
 | leaf k p n i =>
  intro h
  refine SCall.pure0 rfl ?_ (by exact ⟨encR_in _, encR_in _, trivial⟩) (by exact trivial) h
  refine SCall.listed (fn := Go.Proofs.Tryz.f12) (by kernel_rfl) res12 (by kernel_rfl) (by kernel_rfl) (Nat.le_refl _) rfl (trivial) trivial ?_
  unfold rc12
  refine WR.seq (WR.reg (WQ.runS [] 1000 _ _ _ _ rfl (WQ.nilS ?_)))
  refine WR.seq (WR.seq (WR.reg (WQ.runS [] 5 _ _ _ _ rfl ?_)))
  rw [show (!decide ((TyM.leaf k p n i).k = (TyM.leaf k p n i).k)) = false from by simp]
  refine WQ.runS [] 6 _ _ _ _ rfl ?_
  rw [show (!decide ((TyM.leaf k p n i).p = (TyM.leaf k p n i).p)) = false from by simp]
  refine WQ.runS [] 7 _ _ _ _ rfl ?_
  rw [show (!decide ((TyM.leaf k p n i).n = (TyM.leaf k p n i).n)) = false from by simp]
  refine WQ.runS [] 7 _ _ _ _ rfl ?_
  rw [show (!decide ((TyM.leaf k p n i).i = (TyM.leaf k p n i).i)) = false from by simp]
  refine WQ.runS [] 1000 _ _ _ _ rfl (WQ.nilS (WR.condF rfl (WR.skip ?_)))
  refine WR.seq (WR.seq (WR.reg (WQ.runS [] 1000 _ _ _ _ rfl (WQ.nilS ?_))))
  refine WR.block (WR.loop ?_)
  unfold rc12_L1
  refine WLr.of ?_
  refine WR.seq (WR.seq (WR.reg (WQ.runS [] 1000 _ _ _ _ rfl (WQ.nilS (WR.condF rfl (WR.exit ?_))))))
  show WR Go.Proofs.Tryz.prog [] _ rc12_J2 _ _ _
  unfold rc12_J2
  repeat (first | refine WR.seq ?_ | refine WR.block ?_ | refine WR.scope ?_ | refine WR.skip ?_ | refine WR.exit ?_ | refine WR.condT rfl ?_ | refine WR.condF rfl ?_ | refine WR.reg (WQ.runS [] 1000 _ _ _ _ rfl ?_) | refine WQ.nilS ?_ | refine WR.dreg hmix (DW.runS [] 1000 _ _ _ _ _ _ rfl ?_))
  refine WR.ret ⟨rfl, rfl, ⟨_, rfl, VLe.refl _⟩, fun b _ => rfl⟩
 | lst t ih =>
  intro h
  refine SCall.pure0 rfl ?_ (by exact ⟨encR_in _, encR_in _, trivial⟩) (by exact trivial) h
  refine SCall.listed (fn := Go.Proofs.Tryz.f12) (by kernel_rfl) res12 (by kernel_rfl) (by kernel_rfl) (Nat.le_refl _) rfl (trivial) trivial ?_
  unfold rc12
  refine WR.seq (WR.reg (WQ.runS [] 1000 _ _ _ _ rfl (WQ.nilS ?_)))
  refine WR.seq (WR.seq (WR.reg (WQ.runS [] 5 _ _ _ _ rfl ?_)))
  rw [show (!decide ((TyM.lst t).k = (TyM.lst t).k)) = false from by simp]
  refine WQ.runS [] 6 _ _ _ _ rfl ?_
  rw [show (!decide ((TyM.lst t).p = (TyM.lst t).p)) = false from by simp]
  refine WQ.runS [] 7 _ _ _ _ rfl ?_
  rw [show (!decide ((TyM.lst t).n = (TyM.lst t).n)) = false from by simp]
  refine WQ.runS [] 7 _ _ _ _ rfl ?_
  rw [show (!decide ((TyM.lst t).i = (TyM.lst t).i)) = false from by simp]
  refine WQ.runS [] 1000 _ _ _ _ rfl (WQ.nilS (WR.condF rfl (WR.skip ?_)))
  refine WR.seq (WR.seq (WR.reg (WQ.runS [] 1000 _ _ _ _ rfl (WQ.nilS ?_))))
  refine WR.block (WR.loop ?_)
  unfold rc12_L1
  refine WLr.of ?_
  refine WR.seq (WR.seq (WR.reg (WQ.runS [] 1000 _ _ _ _ rfl (WQ.nilS (WR.condT rfl (WR.skip ?_))))))
  refine WR.seq (WR.block (WR.seq (WR.dreg hmix (DW.runS [] 1000 _ _ _ _ _ _ rfl ?_))))
  refine DW.callH (by repeat (first | exact .nil | refine PendR.passM rfl ?_ | refine PendR.sameM rfl ?_ | refine PendR.lightM rfl ?_)) rfl rfl rfl rfl rfl (ih _) .base rfl (DW.runS [] 1000 _ _ _ _ _ _ rfl ?_)
  refine DW.finS (by repeat (first | exact .nil | refine PendR.passM rfl ?_ | refine PendR.sameM rfl ?_ | refine PendR.lightM rfl ?_)) ?_
  refine WR.seq (WR.reg (WQ.runS [] 1000 _ _ _ _ rfl (WQ.nilS (WR.condF rfl (WR.skip ?_)))))
  unfold rc12_J1
  refine WR.reg (WQ.runS [] 1000 _ _ _ _ rfl (WQ.nilS ?_))
  refine WIr.again (WLr.of ?_)
  refine WR.seq (WR.seq (WR.reg (WQ.runS [] 1000 _ _ _ _ rfl (WQ.nilS (WR.condF rfl (WR.exit ?_))))))
  show WR Go.Proofs.Tryz.prog [] _ rc12_J2 _ _ _
  unfold rc12_J2
  repeat (first | refine WR.seq ?_ | refine WR.block ?_ | refine WR.scope ?_ | refine WR.skip ?_ | refine WR.exit ?_ | refine WR.condT rfl ?_ | refine WR.condF rfl ?_ | refine WR.reg (WQ.runS [] 1000 _ _ _ _ rfl ?_) | refine WQ.nilS ?_ | refine WR.dreg hmix (DW.runS [] 1000 _ _ _ _ _ _ rfl ?_))
  refine WR.ret ⟨rfl, rfl, ⟨_, rfl, VLe.refl _⟩, fun b _ => rfl⟩
theorem depT_mk (k a : Int) (p n : List Nat) (l : List TX) : depT (.mk k a p n l) = match l with | [] => 0 | x :: _ => depT x + 1 := by
 cases l <;> simp only [depT]
end Go.VM
