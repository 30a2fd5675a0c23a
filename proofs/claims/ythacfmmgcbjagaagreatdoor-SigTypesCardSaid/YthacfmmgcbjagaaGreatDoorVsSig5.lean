/- laid for this seat: VsSig5 -/
import Derived.Test.YthacfmmgcbjagaaGreatDoorVsSig4
/- What a type of a text means: the program's and the document's functions. -/
set_option maxRecDepth 100000
set_option linter.unusedVariables false
set_option linter.unusedSimpArgs false
namespace Go.VM
open Go.RowKit
def typeF (s : SCx) : TX → TD2
 | .mk k a p n [] => if k = 1 then ⟨.leaf 1 [] [] 0, 0, 0⟩ else if k = 2 then ⟨.leaf 2 [] [] 0, 0, 0⟩ else if k = 3 then ⟨.leaf 3 [] [] 0, 0, 0⟩ else if k = 5 then ⟨.lst zR, 0, 0⟩ else if k = 4 then namedF s a p n else ⟨zR, 0, 0⟩
 | .mk k a p n (x :: _) => if k = 1 then ⟨.leaf 1 [] [] 0, 0, 0⟩ else if k = 2 then ⟨.leaf 2 [] [] 0, 0, 0⟩ else if k = 3 then ⟨.leaf 3 [] [] 0, 0, 0⟩ else if k = 5 then ⟨.lst (typeF s x).t, (typeF s x).at_, (typeF s x).code⟩ else if k = 4 then namedF s a p n else ⟨zR, 0, 0⟩
theorem typeR_spec (s : SCx) (ok : okSc s) : ∀ (N : Nat) (x : TX), depT x ≤ N → ∀ h : H, SCall Go.Proofs.Tryz.prog [] 11 [.agg (encSc s), .agg (encT x)] none h (.ret (encD2 (typeF s x))) none h := by
 intro N
 induction N with
 | zero =>
  intro x hd h
  obtain ⟨k, a, p, n, l⟩ := x
  refine SCall.pure0 rfl ?_ (by exact ⟨ok.ins, encT_in _, trivial⟩) (by exact encD2_in _) h
  cases l with
  | cons y r => simp [depT] at hd
  | nil =>
  refine SCall.listed (fn := Go.Proofs.Tryz.f11) (by kernel_rfl) res11 (by kernel_rfl) (by kernel_rfl) (Nat.le_refl _) rfl (trivial) (by exact encD2_in _) ?_
  unfold rc11
  have hn := named_spec s ok k a p n []
  rw [typeF]
  repeat (first | refine WR.seq ?_ | refine WR.block ?_ | refine WR.scope ?_ | refine WR.skip ?_ | refine WR.exit ?_ | refine WR.condT rfl ?_ | refine WR.condF rfl ?_ | refine WR.reg (WQ.runS [] 1000 _ _ _ _ rfl ?_) | refine WQ.nilS ?_ | refine WR.dreg hmix (DW.runS [] 1000 _ _ _ _ _ _ rfl ?_))
  refine WR.cond rfl (fun c1 => ?_) (fun c1 => ?_)
  ·have c1 : k = 1 := of_decide_eq_true c1
   rw [if_pos c1]
   repeat (first | refine WR.seq ?_ | refine WR.block ?_ | refine WR.scope ?_ | refine WR.skip ?_ | refine WR.exit ?_ | refine WR.condT rfl ?_ | refine WR.condF rfl ?_ | refine WR.reg (WQ.runS [] 1000 _ _ _ _ rfl ?_) | refine WQ.nilS ?_ | refine WR.dreg hmix (DW.runS [] 1000 _ _ _ _ _ _ rfl ?_))
   exact WR.ret ⟨rfl, rfl, ⟨_, rfl, by repeat (first | exact VLe.refl _ | exact VLe.unk _ _ | refine VLe.tup ?_ | refine VLe.agg ?_ | exact VLL.nil | refine VLL.cons ?_ ?_)⟩, fun b hb => rfl⟩
  have c1 : ¬ k = 1 := of_decide_eq_false c1
  rw [if_neg c1]
  repeat (first | refine WR.seq ?_ | refine WR.block ?_ | refine WR.scope ?_ | refine WR.skip ?_ | refine WR.exit ?_ | refine WR.condT rfl ?_ | refine WR.condF rfl ?_ | refine WR.reg (WQ.runS [] 1000 _ _ _ _ rfl ?_) | refine WQ.nilS ?_ | refine WR.dreg hmix (DW.runS [] 1000 _ _ _ _ _ _ rfl ?_))
  refine WR.cond rfl (fun c2 => ?_) (fun c2 => ?_)
  ·have c2 : k = 2 := of_decide_eq_true c2
   rw [if_pos c2]
   repeat (first | refine WR.seq ?_ | refine WR.block ?_ | refine WR.scope ?_ | refine WR.skip ?_ | refine WR.exit ?_ | refine WR.condT rfl ?_ | refine WR.condF rfl ?_ | refine WR.reg (WQ.runS [] 1000 _ _ _ _ rfl ?_) | refine WQ.nilS ?_ | refine WR.dreg hmix (DW.runS [] 1000 _ _ _ _ _ _ rfl ?_))
   exact WR.ret ⟨rfl, rfl, ⟨_, rfl, by repeat (first | exact VLe.refl _ | exact VLe.unk _ _ | refine VLe.tup ?_ | refine VLe.agg ?_ | exact VLL.nil | refine VLL.cons ?_ ?_)⟩, fun b hb => rfl⟩
  have c2 : ¬ k = 2 := of_decide_eq_false c2
  rw [if_neg c2]
  repeat (first | refine WR.seq ?_ | refine WR.block ?_ | refine WR.scope ?_ | refine WR.skip ?_ | refine WR.exit ?_ | refine WR.condT rfl ?_ | refine WR.condF rfl ?_ | refine WR.reg (WQ.runS [] 1000 _ _ _ _ rfl ?_) | refine WQ.nilS ?_ | refine WR.dreg hmix (DW.runS [] 1000 _ _ _ _ _ _ rfl ?_))
  refine WR.cond rfl (fun c3 => ?_) (fun c3 => ?_)
  ·have c3 : k = 3 := of_decide_eq_true c3
   rw [if_pos c3]
   repeat (first | refine WR.seq ?_ | refine WR.block ?_ | refine WR.scope ?_ | refine WR.skip ?_ | refine WR.exit ?_ | refine WR.condT rfl ?_ | refine WR.condF rfl ?_ | refine WR.reg (WQ.runS [] 1000 _ _ _ _ rfl ?_) | refine WQ.nilS ?_ | refine WR.dreg hmix (DW.runS [] 1000 _ _ _ _ _ _ rfl ?_))
   exact WR.ret ⟨rfl, rfl, ⟨_, rfl, by repeat (first | exact VLe.refl _ | exact VLe.unk _ _ | refine VLe.tup ?_ | refine VLe.agg ?_ | exact VLL.nil | refine VLL.cons ?_ ?_)⟩, fun b hb => rfl⟩
  have c3 : ¬ k = 3 := of_decide_eq_false c3
  rw [if_neg c3]
  repeat (first | refine WR.seq ?_ | refine WR.block ?_ | refine WR.scope ?_ | refine WR.skip ?_ | refine WR.exit ?_ | refine WR.condT rfl ?_ | refine WR.condF rfl ?_ | refine WR.reg (WQ.runS [] 1000 _ _ _ _ rfl ?_) | refine WQ.nilS ?_ | refine WR.dreg hmix (DW.runS [] 1000 _ _ _ _ _ _ rfl ?_))
  refine WR.cond rfl (fun c5 => ?_) (fun c5 => ?_)
  ·have c5 : k = 5 := of_decide_eq_true c5
   rw [if_pos c5]
   repeat (first | refine WR.seq ?_ | refine WR.block ?_ | refine WR.scope ?_ | refine WR.skip ?_ | refine WR.exit ?_ | refine WR.condT rfl ?_ | refine WR.condF rfl ?_ | refine WR.reg (WQ.runS [] 1000 _ _ _ _ rfl ?_) | refine WQ.nilS ?_ | refine WR.dreg hmix (DW.runS [] 1000 _ _ _ _ _ _ rfl ?_))
   exact WR.ret ⟨rfl, rfl, ⟨_, rfl, by repeat (first | exact VLe.refl _ | exact VLe.unk _ _ | refine VLe.tup ?_ | refine VLe.agg ?_ | exact VLL.nil | refine VLL.cons ?_ ?_)⟩, fun b hb => rfl⟩
  have c5 : ¬ k = 5 := of_decide_eq_false c5
  rw [if_neg c5]
  repeat (first | refine WR.seq ?_ | refine WR.block ?_ | refine WR.scope ?_ | refine WR.skip ?_ | refine WR.exit ?_ | refine WR.condT rfl ?_ | refine WR.condF rfl ?_ | refine WR.reg (WQ.runS [] 1000 _ _ _ _ rfl ?_) | refine WQ.nilS ?_ | refine WR.dreg hmix (DW.runS [] 1000 _ _ _ _ _ _ rfl ?_))
  refine WR.cond rfl (fun c4 => ?_) (fun c4 => ?_)
  ·have c4 : k = 4 := of_decide_eq_true c4
   rw [if_pos c4]
   refine WR.seq (WR.reg (WQ.runS [] 2 _ _ _ _ rfl ?_))
   refine WQ.callH rfl rfl rfl rfl rfl (hn _) .base rfl (WQ.runS [] 1000 _ _ _ _ rfl (WQ.nilS ?_))
   exact WR.ret ⟨rfl, rfl, ⟨_, rfl, by repeat (first | exact VLe.refl _ | exact VLe.unk _ _ | refine VLe.tup ?_ | refine VLe.agg ?_ | exact VLL.nil | refine VLL.cons ?_ ?_)⟩, fun b hb => rfl⟩
  have c4 : ¬ k = 4 := of_decide_eq_false c4
  rw [if_neg c4]
  refine WR.skip ?_
  show WR Go.Proofs.Tryz.prog [] _ rc11_J1 _ _ _
  unfold rc11_J1
  repeat (first | refine WR.seq ?_ | refine WR.block ?_ | refine WR.scope ?_ | refine WR.skip ?_ | refine WR.exit ?_ | refine WR.condT rfl ?_ | refine WR.condF rfl ?_ | refine WR.reg (WQ.runS [] 1000 _ _ _ _ rfl ?_) | refine WQ.nilS ?_ | refine WR.dreg hmix (DW.runS [] 1000 _ _ _ _ _ _ rfl ?_))
  exact WR.ret ⟨rfl, rfl, ⟨_, rfl, by repeat (first | exact VLe.refl _ | exact VLe.unk _ _ | refine VLe.tup ?_ | refine VLe.agg ?_ | exact VLL.nil | refine VLL.cons ?_ ?_)⟩, fun b hb => rfl⟩
 | succ N ih =>
  intro x hd h
  obtain ⟨k, a, p, n, l⟩ := x
  refine SCall.pure0 rfl ?_ (by exact ⟨ok.ins, encT_in _, trivial⟩) (by exact encD2_in _) h
  cases l with
  | nil =>
   refine SCall.listed (fn := Go.Proofs.Tryz.f11) (by kernel_rfl) res11 (by kernel_rfl) (by kernel_rfl) (Nat.le_refl _) rfl (trivial) (by exact encD2_in _) ?_
   unfold rc11
   have hn := named_spec s ok k a p n []
   rw [typeF]
   repeat (first | refine WR.seq ?_ | refine WR.block ?_ | refine WR.scope ?_ | refine WR.skip ?_ | refine WR.exit ?_ | refine WR.condT rfl ?_ | refine WR.condF rfl ?_ | refine WR.reg (WQ.runS [] 1000 _ _ _ _ rfl ?_) | refine WQ.nilS ?_ | refine WR.dreg hmix (DW.runS [] 1000 _ _ _ _ _ _ rfl ?_))
   refine WR.cond rfl (fun c1 => ?_) (fun c1 => ?_)
   ·have c1 : k = 1 := of_decide_eq_true c1
    rw [if_pos c1]
    repeat (first | refine WR.seq ?_ | refine WR.block ?_ | refine WR.scope ?_ | refine WR.skip ?_ | refine WR.exit ?_ | refine WR.condT rfl ?_ | refine WR.condF rfl ?_ | refine WR.reg (WQ.runS [] 1000 _ _ _ _ rfl ?_) | refine WQ.nilS ?_ | refine WR.dreg hmix (DW.runS [] 1000 _ _ _ _ _ _ rfl ?_))
    exact WR.ret ⟨rfl, rfl, ⟨_, rfl, by repeat (first | exact VLe.refl _ | exact VLe.unk _ _ | refine VLe.tup ?_ | refine VLe.agg ?_ | exact VLL.nil | refine VLL.cons ?_ ?_)⟩, fun b hb => rfl⟩
   have c1 : ¬ k = 1 := of_decide_eq_false c1
   rw [if_neg c1]
   repeat (first | refine WR.seq ?_ | refine WR.block ?_ | refine WR.scope ?_ | refine WR.skip ?_ | refine WR.exit ?_ | refine WR.condT rfl ?_ | refine WR.condF rfl ?_ | refine WR.reg (WQ.runS [] 1000 _ _ _ _ rfl ?_) | refine WQ.nilS ?_ | refine WR.dreg hmix (DW.runS [] 1000 _ _ _ _ _ _ rfl ?_))
   refine WR.cond rfl (fun c2 => ?_) (fun c2 => ?_)
   ·have c2 : k = 2 := of_decide_eq_true c2
    rw [if_pos c2]
    repeat (first | refine WR.seq ?_ | refine WR.block ?_ | refine WR.scope ?_ | refine WR.skip ?_ | refine WR.exit ?_ | refine WR.condT rfl ?_ | refine WR.condF rfl ?_ | refine WR.reg (WQ.runS [] 1000 _ _ _ _ rfl ?_) | refine WQ.nilS ?_ | refine WR.dreg hmix (DW.runS [] 1000 _ _ _ _ _ _ rfl ?_))
    exact WR.ret ⟨rfl, rfl, ⟨_, rfl, by repeat (first | exact VLe.refl _ | exact VLe.unk _ _ | refine VLe.tup ?_ | refine VLe.agg ?_ | exact VLL.nil | refine VLL.cons ?_ ?_)⟩, fun b hb => rfl⟩
   have c2 : ¬ k = 2 := of_decide_eq_false c2
   rw [if_neg c2]
   repeat (first | refine WR.seq ?_ | refine WR.block ?_ | refine WR.scope ?_ | refine WR.skip ?_ | refine WR.exit ?_ | refine WR.condT rfl ?_ | refine WR.condF rfl ?_ | refine WR.reg (WQ.runS [] 1000 _ _ _ _ rfl ?_) | refine WQ.nilS ?_ | refine WR.dreg hmix (DW.runS [] 1000 _ _ _ _ _ _ rfl ?_))
   refine WR.cond rfl (fun c3 => ?_) (fun c3 => ?_)
   ·have c3 : k = 3 := of_decide_eq_true c3
    rw [if_pos c3]
    repeat (first | refine WR.seq ?_ | refine WR.block ?_ | refine WR.scope ?_ | refine WR.skip ?_ | refine WR.exit ?_ | refine WR.condT rfl ?_ | refine WR.condF rfl ?_ | refine WR.reg (WQ.runS [] 1000 _ _ _ _ rfl ?_) | refine WQ.nilS ?_ | refine WR.dreg hmix (DW.runS [] 1000 _ _ _ _ _ _ rfl ?_))
    exact WR.ret ⟨rfl, rfl, ⟨_, rfl, by repeat (first | exact VLe.refl _ | exact VLe.unk _ _ | refine VLe.tup ?_ | refine VLe.agg ?_ | exact VLL.nil | refine VLL.cons ?_ ?_)⟩, fun b hb => rfl⟩
   have c3 : ¬ k = 3 := of_decide_eq_false c3
   rw [if_neg c3]
   repeat (first | refine WR.seq ?_ | refine WR.block ?_ | refine WR.scope ?_ | refine WR.skip ?_ | refine WR.exit ?_ | refine WR.condT rfl ?_ | refine WR.condF rfl ?_ | refine WR.reg (WQ.runS [] 1000 _ _ _ _ rfl ?_) | refine WQ.nilS ?_ | refine WR.dreg hmix (DW.runS [] 1000 _ _ _ _ _ _ rfl ?_))
   refine WR.cond rfl (fun c5 => ?_) (fun c5 => ?_)
   ·have c5 : k = 5 := of_decide_eq_true c5
    rw [if_pos c5]
    repeat (first | refine WR.seq ?_ | refine WR.block ?_ | refine WR.scope ?_ | refine WR.skip ?_ | refine WR.exit ?_ | refine WR.condT rfl ?_ | refine WR.condF rfl ?_ | refine WR.reg (WQ.runS [] 1000 _ _ _ _ rfl ?_) | refine WQ.nilS ?_ | refine WR.dreg hmix (DW.runS [] 1000 _ _ _ _ _ _ rfl ?_))
    exact WR.ret ⟨rfl, rfl, ⟨_, rfl, by repeat (first | exact VLe.refl _ | exact VLe.unk _ _ | refine VLe.tup ?_ | refine VLe.agg ?_ | exact VLL.nil | refine VLL.cons ?_ ?_)⟩, fun b hb => rfl⟩
   have c5 : ¬ k = 5 := of_decide_eq_false c5
   rw [if_neg c5]
   repeat (first | refine WR.seq ?_ | refine WR.block ?_ | refine WR.scope ?_ | refine WR.skip ?_ | refine WR.exit ?_ | refine WR.condT rfl ?_ | refine WR.condF rfl ?_ | refine WR.reg (WQ.runS [] 1000 _ _ _ _ rfl ?_) | refine WQ.nilS ?_ | refine WR.dreg hmix (DW.runS [] 1000 _ _ _ _ _ _ rfl ?_))
   refine WR.cond rfl (fun c4 => ?_) (fun c4 => ?_)
   ·have c4 : k = 4 := of_decide_eq_true c4
    rw [if_pos c4]
    refine WR.seq (WR.reg (WQ.runS [] 2 _ _ _ _ rfl ?_))
    refine WQ.callH rfl rfl rfl rfl rfl (hn _) .base rfl (WQ.runS [] 1000 _ _ _ _ rfl (WQ.nilS ?_))
    exact WR.ret ⟨rfl, rfl, ⟨_, rfl, by repeat (first | exact VLe.refl _ | exact VLe.unk _ _ | refine VLe.tup ?_ | refine VLe.agg ?_ | exact VLL.nil | refine VLL.cons ?_ ?_)⟩, fun b hb => rfl⟩
   have c4 : ¬ k = 4 := of_decide_eq_false c4
   rw [if_neg c4]
   refine WR.skip ?_
   show WR Go.Proofs.Tryz.prog [] _ rc11_J1 _ _ _
   unfold rc11_J1
   repeat (first | refine WR.seq ?_ | refine WR.block ?_ | refine WR.scope ?_ | refine WR.skip ?_ | refine WR.exit ?_ | refine WR.condT rfl ?_ | refine WR.condF rfl ?_ | refine WR.reg (WQ.runS [] 1000 _ _ _ _ rfl ?_) | refine WQ.nilS ?_ | refine WR.dreg hmix (DW.runS [] 1000 _ _ _ _ _ _ rfl ?_))
   exact WR.ret ⟨rfl, rfl, ⟨_, rfl, by repeat (first | exact VLe.refl _ | exact VLe.unk _ _ | refine VLe.tup ?_ | refine VLe.agg ?_ | exact VLL.nil | refine VLL.cons ?_ ?_)⟩, fun b hb => rfl⟩
  | cons y r =>
   refine SCall.listed (fn := Go.Proofs.Tryz.f11) (by kernel_rfl) res11 (by kernel_rfl) (by kernel_rfl) (Nat.le_refl _) rfl (trivial) (by exact encD2_in _) ?_
   unfold rc11
   have hn := named_spec s ok k a p n (y :: r)
   have sub := ih y (by simp only [depT] at hd; omega)
   rw [typeF]
   repeat (first | refine WR.seq ?_ | refine WR.block ?_ | refine WR.scope ?_ | refine WR.skip ?_ | refine WR.exit ?_ | refine WR.condT rfl ?_ | refine WR.condF rfl ?_ | refine WR.reg (WQ.runS [] 1000 _ _ _ _ rfl ?_) | refine WQ.nilS ?_ | refine WR.dreg hmix (DW.runS [] 1000 _ _ _ _ _ _ rfl ?_))
   refine WR.cond rfl (fun c1 => ?_) (fun c1 => ?_)
   ·have c1 : k = 1 := of_decide_eq_true c1
    rw [if_pos c1]
    repeat (first | refine WR.seq ?_ | refine WR.block ?_ | refine WR.scope ?_ | refine WR.skip ?_ | refine WR.exit ?_ | refine WR.condT rfl ?_ | refine WR.condF rfl ?_ | refine WR.reg (WQ.runS [] 1000 _ _ _ _ rfl ?_) | refine WQ.nilS ?_ | refine WR.dreg hmix (DW.runS [] 1000 _ _ _ _ _ _ rfl ?_))
    exact WR.ret ⟨rfl, rfl, ⟨_, rfl, by repeat (first | exact VLe.refl _ | exact VLe.unk _ _ | refine VLe.tup ?_ | refine VLe.agg ?_ | exact VLL.nil | refine VLL.cons ?_ ?_)⟩, fun b hb => rfl⟩
   have c1 : ¬ k = 1 := of_decide_eq_false c1
   rw [if_neg c1]
   repeat (first | refine WR.seq ?_ | refine WR.block ?_ | refine WR.scope ?_ | refine WR.skip ?_ | refine WR.exit ?_ | refine WR.condT rfl ?_ | refine WR.condF rfl ?_ | refine WR.reg (WQ.runS [] 1000 _ _ _ _ rfl ?_) | refine WQ.nilS ?_ | refine WR.dreg hmix (DW.runS [] 1000 _ _ _ _ _ _ rfl ?_))
   refine WR.cond rfl (fun c2 => ?_) (fun c2 => ?_)
   ·have c2 : k = 2 := of_decide_eq_true c2
    rw [if_pos c2]
    repeat (first | refine WR.seq ?_ | refine WR.block ?_ | refine WR.scope ?_ | refine WR.skip ?_ | refine WR.exit ?_ | refine WR.condT rfl ?_ | refine WR.condF rfl ?_ | refine WR.reg (WQ.runS [] 1000 _ _ _ _ rfl ?_) | refine WQ.nilS ?_ | refine WR.dreg hmix (DW.runS [] 1000 _ _ _ _ _ _ rfl ?_))
    exact WR.ret ⟨rfl, rfl, ⟨_, rfl, by repeat (first | exact VLe.refl _ | exact VLe.unk _ _ | refine VLe.tup ?_ | refine VLe.agg ?_ | exact VLL.nil | refine VLL.cons ?_ ?_)⟩, fun b hb => rfl⟩
   have c2 : ¬ k = 2 := of_decide_eq_false c2
   rw [if_neg c2]
   repeat (first | refine WR.seq ?_ | refine WR.block ?_ | refine WR.scope ?_ | refine WR.skip ?_ | refine WR.exit ?_ | refine WR.condT rfl ?_ | refine WR.condF rfl ?_ | refine WR.reg (WQ.runS [] 1000 _ _ _ _ rfl ?_) | refine WQ.nilS ?_ | refine WR.dreg hmix (DW.runS [] 1000 _ _ _ _ _ _ rfl ?_))
   refine WR.cond rfl (fun c3 => ?_) (fun c3 => ?_)
   ·have c3 : k = 3 := of_decide_eq_true c3
    rw [if_pos c3]
    repeat (first | refine WR.seq ?_ | refine WR.block ?_ | refine WR.scope ?_ | refine WR.skip ?_ | refine WR.exit ?_ | refine WR.condT rfl ?_ | refine WR.condF rfl ?_ | refine WR.reg (WQ.runS [] 1000 _ _ _ _ rfl ?_) | refine WQ.nilS ?_ | refine WR.dreg hmix (DW.runS [] 1000 _ _ _ _ _ _ rfl ?_))
    exact WR.ret ⟨rfl, rfl, ⟨_, rfl, by repeat (first | exact VLe.refl _ | exact VLe.unk _ _ | refine VLe.tup ?_ | refine VLe.agg ?_ | exact VLL.nil | refine VLL.cons ?_ ?_)⟩, fun b hb => rfl⟩
   have c3 : ¬ k = 3 := of_decide_eq_false c3
   rw [if_neg c3]
   repeat (first | refine WR.seq ?_ | refine WR.block ?_ | refine WR.scope ?_ | refine WR.skip ?_ | refine WR.exit ?_ | refine WR.condT rfl ?_ | refine WR.condF rfl ?_ | refine WR.reg (WQ.runS [] 1000 _ _ _ _ rfl ?_) | refine WQ.nilS ?_ | refine WR.dreg hmix (DW.runS [] 1000 _ _ _ _ _ _ rfl ?_))
   refine WR.cond rfl (fun c5 => ?_) (fun c5 => ?_)
   ·have c5 : k = 5 := of_decide_eq_true c5
    rw [if_pos c5]
    obtain ⟨k2, a2, p2, n2, l2⟩ := y
    generalize typeF s (.mk k2 a2 p2 n2 l2) = T at sub ⊢
    repeat (first | refine WR.seq ?_ | refine WR.block ?_ | refine WR.scope ?_ | refine WR.skip ?_ | refine WR.exit ?_ | refine WR.condT rfl ?_ | refine WR.condF rfl ?_ | refine WR.reg (WQ.runS [] 1000 _ _ _ _ rfl ?_) | refine WQ.nilS ?_ | refine WR.dreg hmix (DW.runS [] 1000 _ _ _ _ _ _ rfl ?_))
    refine DW.callH (by repeat (first | exact .nil | refine PendR.passM rfl ?_ | refine PendR.sameM rfl ?_ | refine PendR.lightM rfl ?_)) rfl rfl rfl rfl rfl (sub _) .base rfl (DW.runS [] 1000 _ _ _ _ _ _ rfl ?_)
    refine DW.stS (by repeat (first | exact .nil | refine PendR.passM rfl ?_ | refine PendR.sameM rfl ?_ | refine PendR.lightM rfl ?_)) rfl rfl rfl rfl (DW.runS [] 1000 _ _ _ _ _ _ rfl ?_)
    refine DW.stS (by repeat (first | exact .nil | refine PendR.passM rfl ?_ | refine PendR.sameM rfl ?_ | refine PendR.lightM rfl ?_)) rfl rfl rfl rfl (DW.runS [] 1000 _ _ _ _ _ _ rfl ?_)
    refine DW.finS (by repeat (first | exact .nil | refine PendR.passM rfl ?_ | refine PendR.sameM rfl ?_ | refine PendR.lightM rfl ?_)) ?_
    repeat (first | refine WR.seq ?_ | refine WR.block ?_ | refine WR.scope ?_ | refine WR.skip ?_ | refine WR.exit ?_ | refine WR.condT rfl ?_ | refine WR.condF rfl ?_ | refine WR.reg (WQ.runS [] 1000 _ _ _ _ rfl ?_) | refine WQ.nilS ?_ | refine WR.dreg hmix (DW.runS [] 1000 _ _ _ _ _ _ rfl ?_))
    refine DW.stS (by repeat (first | exact .nil | refine PendR.passM rfl ?_ | refine PendR.sameM rfl ?_ | refine PendR.lightM rfl ?_)) rfl rfl rfl rfl (DW.runS [] 1000 _ _ _ _ _ _ rfl ?_)
    refine DW.stS (by repeat (first | exact .nil | refine PendR.passM rfl ?_ | refine PendR.sameM rfl ?_ | refine PendR.lightM rfl ?_)) rfl rfl rfl rfl (DW.runS [] 1000 _ _ _ _ _ _ rfl ?_)
    refine DW.finS (by repeat (first | exact .nil | refine PendR.passM rfl ?_ | refine PendR.sameM rfl ?_ | refine PendR.lightM rfl ?_)) ?_
    exact WR.ret ⟨rfl, rfl, ⟨_, rfl, by repeat (first | exact VLe.refl _ | exact VLe.unk _ _ | refine VLe.tup ?_ | refine VLe.agg ?_ | exact VLL.nil | refine VLL.cons ?_ ?_)⟩, fun b hb => (og_low (by rfl) b hb).symm⟩
   have c5 : ¬ k = 5 := of_decide_eq_false c5
   rw [if_neg c5]
   repeat (first | refine WR.seq ?_ | refine WR.block ?_ | refine WR.scope ?_ | refine WR.skip ?_ | refine WR.exit ?_ | refine WR.condT rfl ?_ | refine WR.condF rfl ?_ | refine WR.reg (WQ.runS [] 1000 _ _ _ _ rfl ?_) | refine WQ.nilS ?_ | refine WR.dreg hmix (DW.runS [] 1000 _ _ _ _ _ _ rfl ?_))
   refine WR.cond rfl (fun c4 => ?_) (fun c4 => ?_)
   ·have c4 : k = 4 := of_decide_eq_true c4
    rw [if_pos c4]
    refine WR.seq (WR.reg (WQ.runS [] 2 _ _ _ _ rfl ?_))
    refine WQ.callH rfl rfl rfl rfl rfl (hn _) .base rfl (WQ.runS [] 1000 _ _ _ _ rfl (WQ.nilS ?_))
    exact WR.ret ⟨rfl, rfl, ⟨_, rfl, by repeat (first | exact VLe.refl _ | exact VLe.unk _ _ | refine VLe.tup ?_ | refine VLe.agg ?_ | exact VLL.nil | refine VLL.cons ?_ ?_)⟩, fun b hb => rfl⟩
   have c4 : ¬ k = 4 := of_decide_eq_false c4
   rw [if_neg c4]
   refine WR.skip ?_
   show WR Go.Proofs.Tryz.prog [] _ rc11_J1 _ _ _
   unfold rc11_J1
   repeat (first | refine WR.seq ?_ | refine WR.block ?_ | refine WR.scope ?_ | refine WR.skip ?_ | refine WR.exit ?_ | refine WR.condT rfl ?_ | refine WR.condF rfl ?_ | refine WR.reg (WQ.runS [] 1000 _ _ _ _ rfl ?_) | refine WQ.nilS ?_ | refine WR.dreg hmix (DW.runS [] 1000 _ _ _ _ _ _ rfl ?_))
   exact WR.ret ⟨rfl, rfl, ⟨_, rfl, by repeat (first | exact VLe.refl _ | exact VLe.unk _ _ | refine VLe.tup ?_ | refine VLe.agg ?_ | exact VLL.nil | refine VLL.cons ?_ ?_)⟩, fun b hb => rfl⟩
end Go.VM
