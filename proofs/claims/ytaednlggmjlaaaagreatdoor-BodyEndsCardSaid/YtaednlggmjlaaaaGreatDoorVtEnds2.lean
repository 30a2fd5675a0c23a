/- laid for this seat: VtEnds2 -/
import Derived.Test.YtaednlggmjlaaaaGreatDoorVtEnds
/- Whether a block ends in returns: the walks, the law. -/
set_option maxRecDepth 100000
set_option linter.unusedVariables false
set_option linter.unusedSimpArgs false
namespace Go.VM
open Go.RowKit
theorem ends7 : ∀ (N : Nat) (l : List ST), szSs l ≤ N → okSs l → l.length ≤ 9223372036854775807 → ∀ h : H, SCall Go.Proofs.Tryz.prog [] 7 [.lst (encSs l) .unk] none h (.ret (.bool (endL l))) none h := by
 intro N
 induction N using Nat.strongRecOn with
 | _ N ihN =>
 intro l hsz ok hlen h
 refine SCall.pure0 rfl ?_ (by exact ⟨⟨encSs_in l ok, trivial⟩, trivial⟩) (by exact trivial) h
 refine SCall.listed (fn := Go.Proofs.Tryz.f7) (by kernel_rfl) res7 (by kernel_rfl) (by kernel_rfl) (Nat.le_refl _) rfl (trivial) trivial ?_
 unfold rc7
 refine WR.seq (WR.reg (WQ.runS [] 1000 _ _ _ _ rfl (WQ.nilS ?_)))
 refine WR.seq (WR.seq (WR.reg (WQ.runS [] 1000 _ _ _ _ rfl (WQ.nilS ?_))))
 rcases Nat.eq_zero_or_pos l.length with h0 | h0
 ·have : l = [] := List.eq_nil_of_length_eq_zero h0
  subst this
  refine WR.condT rfl ?_
  repeat (first | refine WR.seq ?_ | refine WR.block ?_ | refine WR.scope ?_ | refine WR.skip ?_ | refine WR.exit ?_ | refine WR.condT rfl ?_ | refine WR.condF rfl ?_ | refine WR.reg (WQ.runS [] 1000 _ _ _ _ rfl ?_) | refine WQ.nilS ?_ | refine WR.dreg hmix (DW.runS [] 1000 _ _ _ _ _ _ rfl ?_))
  refine WR.ret ⟨rfl, rfl, ⟨_, rfl, VLe.refl _⟩, fun b _ => rfl⟩
 obtain ⟨x, hx⟩ : ∃ x, l[l.length - 1]? = some x := ⟨_, List.getElem?_eq_getElem (by omega)⟩
 have hg := encSs_get hx
 have okx := okSs_get ok hx
 have hsx := szSs_get hx
 rw [endL_last l x hx]
 rw [show decide (((encSs l).length : Int) = 0) = false from decide_eq_false (by rw [encSs_len]; omega)]
 refine WR.condF rfl (WR.skip ?_)
 refine WR.seq (WR.seq (WR.reg (WQ.runS [] 4 _ _ _ _ rfl ?_)))
 rw [show IntKind.i64.wrap (((encSs l).length : Int) - 1) = ((l.length - 1 : Nat) : Int) from by rw [encSs_len, wrap64 (by omega) (by omega)]; omega]
 obtain ⟨kind, at_, name, has, xk, xa, xe, xn, xi, tk, ta, tp, tn, targs, xargs, body, els⟩ := x
 simp only [szS] at hsx
 obtain ⟨_, _, okb, oke, lb, le⟩ := okx
 refine WQ.lightS rfl rfl rfl (ia_at rfl rfl hg rfl) rfl ?_
 refine WQ.runS [] 1000 _ _ _ _ rfl (WQ.nilS ?_)
 refine WR.seq (WR.reg (WQ.runS [] 1000 _ _ _ _ rfl (WQ.nilS ?_)))
 refine WR.block (WR.seq (WR.reg (WQ.runS [] 1000 _ _ _ _ rfl (WQ.nilS ?_))))
 by_cases h3 : kind = 3
 ·rw [show decide (kind = 3) = true from decide_eq_true h3, show endS (.mk kind at_ name has xk xa xe xn xi tk ta tp tn targs xargs body els) = true from by simp only [endS, if_pos h3]]
  refine WR.condT rfl ?_
  repeat (first | refine WR.seq ?_ | refine WR.block ?_ | refine WR.scope ?_ | refine WR.skip ?_ | refine WR.exit ?_ | refine WR.condT rfl ?_ | refine WR.condF rfl ?_ | refine WR.reg (WQ.runS [] 1000 _ _ _ _ rfl ?_) | refine WQ.nilS ?_ | refine WR.dreg hmix (DW.runS [] 1000 _ _ _ _ _ _ rfl ?_))
  refine WR.ret ⟨rfl, rfl, ⟨_, rfl, VLe.refl _⟩, fun b _ => rfl⟩
 rw [show decide (kind = 3) = false from decide_eq_false h3]
 refine WR.condF rfl (WR.seq (WR.reg (WQ.runS [] 1000 _ _ _ _ rfl (WQ.nilS ?_))))
 by_cases h4 : kind = 4
 ·rw [show decide (kind = 4) = true from decide_eq_true h4, show endS (.mk kind at_ name has xk xa xe xn xi tk ta tp tn targs xargs body els) = ((has && endL body) && endL els) from by simp only [endS, if_neg h3, if_pos h4]]
  refine WR.condT rfl ?_
  cases has with
  | false =>
   refine WR.seq (WR.reg (WQ.runS [] 1000 _ _ _ _ rfl (WQ.nilS ?_)))
   refine WR.ret ⟨rfl, rfl, ⟨_, rfl, VLe.refl _⟩, fun b _ => rfl⟩
  | true =>
   refine WR.seq (WR.reg (WQ.runS [] 5 _ _ _ _ rfl ?_))
   refine WQ.callH rfl rfl rfl rfl rfl (ihN (szSs body) (by omega) body (Nat.le_refl _) okb lb _) .base rfl ?_
   cases endL body with
   | false =>
    refine WQ.runS [] 1000 _ _ _ _ rfl (WQ.nilS ?_)
    refine WR.ret ⟨rfl, rfl, ⟨_, rfl, VLe.refl _⟩, fun b _ => rfl⟩
   | true =>
    refine WQ.runS [] 4 _ _ _ _ rfl ?_
    refine WQ.callH rfl rfl rfl rfl rfl (ihN (szSs els) (by omega) els (Nat.le_refl _) oke le _) .base rfl ?_
    refine WQ.runS [] 1000 _ _ _ _ rfl (WQ.nilS ?_)
    refine WR.ret ⟨rfl, rfl, ⟨_, rfl, VLe.refl _⟩, fun b _ => rfl⟩
 ·rw [show decide (kind = 4) = false from decide_eq_false h4, show endS (.mk kind at_ name has xk xa xe xn xi tk ta tp tn targs xargs body els) = false from by simp only [endS, if_neg h3, if_neg h4]]
  refine WR.condF rfl (WR.skip ?_)
  unfold rc7_J1
  repeat (first | refine WR.seq ?_ | refine WR.block ?_ | refine WR.scope ?_ | refine WR.skip ?_ | refine WR.exit ?_ | refine WR.condT rfl ?_ | refine WR.condF rfl ?_ | refine WR.reg (WQ.runS [] 1000 _ _ _ _ rfl ?_) | refine WQ.nilS ?_ | refine WR.dreg hmix (DW.runS [] 1000 _ _ _ _ _ _ rfl ?_))
  refine WR.ret ⟨rfl, rfl, ⟨_, rfl, VLe.refl _⟩, fun b _ => rfl⟩
theorem ends8 : ∀ (N : Nat) (l : List ST), szSs l ≤ N → okSs l → l.length ≤ 9223372036854775807 → ∀ h : H, SCall Go.Proofs.Tryz.prog [] 8 [.lst (encSs l) .unk] none h (.ret (.bool (endL l))) none h := by
 intro N
 induction N using Nat.strongRecOn with
 | _ N ihN =>
 intro l hsz ok hlen h
 refine SCall.pure0 rfl ?_ (by exact ⟨⟨encSs_in l ok, trivial⟩, trivial⟩) (by exact trivial) h
 refine SCall.listed (fn := Go.Proofs.Tryz.f8) (by kernel_rfl) res8 (by kernel_rfl) (by kernel_rfl) (Nat.le_refl _) rfl (trivial) trivial ?_
 unfold rc8
 refine WR.seq (WR.reg (WQ.runS [] 1000 _ _ _ _ rfl (WQ.nilS ?_)))
 refine WR.seq (WR.seq (WR.reg (WQ.runS [] 1000 _ _ _ _ rfl (WQ.nilS ?_))))
 rcases Nat.eq_zero_or_pos l.length with h0 | h0
 ·have : l = [] := List.eq_nil_of_length_eq_zero h0
  subst this
  refine WR.condT rfl ?_
  repeat (first | refine WR.seq ?_ | refine WR.block ?_ | refine WR.scope ?_ | refine WR.skip ?_ | refine WR.exit ?_ | refine WR.condT rfl ?_ | refine WR.condF rfl ?_ | refine WR.reg (WQ.runS [] 1000 _ _ _ _ rfl ?_) | refine WQ.nilS ?_ | refine WR.dreg hmix (DW.runS [] 1000 _ _ _ _ _ _ rfl ?_))
  refine WR.ret ⟨rfl, rfl, ⟨_, rfl, VLe.refl _⟩, fun b _ => rfl⟩
 obtain ⟨x, hx⟩ : ∃ x, l[l.length - 1]? = some x := ⟨_, List.getElem?_eq_getElem (by omega)⟩
 have hg := encSs_get hx
 have okx := okSs_get ok hx
 have hsx := szSs_get hx
 rw [endL_last l x hx]
 rw [show decide (((encSs l).length : Int) = 0) = false from decide_eq_false (by rw [encSs_len]; omega)]
 refine WR.condF rfl (WR.skip ?_)
 refine WR.seq (WR.reg (WQ.runS [] 4 _ _ _ _ rfl ?_))
 rw [show IntKind.i64.wrap (((encSs l).length : Int) - 1) = ((l.length - 1 : Nat) : Int) from by rw [encSs_len, wrap64 (by omega) (by omega)]; omega]
 obtain ⟨kind, at_, name, has, xk, xa, xe, xn, xi, tk, ta, tp, tn, targs, xargs, body, els⟩ := x
 simp only [szS] at hsx
 obtain ⟨_, _, okb, oke, lb, le⟩ := okx
 refine WQ.lightS rfl rfl rfl (ia_at rfl rfl hg rfl) rfl ?_
 refine WQ.runS [] 1000 _ _ _ _ rfl (WQ.nilS ?_)
 refine WR.seq (WR.seq (WR.reg (WQ.runS [] 1000 _ _ _ _ rfl (WQ.nilS ?_))))
 by_cases h3 : kind = 3
 ·rw [show decide (kind = 3) = true from decide_eq_true h3, show endS (.mk kind at_ name has xk xa xe xn xi tk ta tp tn targs xargs body els) = true from by simp only [endS, if_pos h3]]
  refine WR.condT rfl ?_
  repeat (first | refine WR.seq ?_ | refine WR.block ?_ | refine WR.scope ?_ | refine WR.skip ?_ | refine WR.exit ?_ | refine WR.condT rfl ?_ | refine WR.condF rfl ?_ | refine WR.reg (WQ.runS [] 1000 _ _ _ _ rfl ?_) | refine WQ.nilS ?_ | refine WR.dreg hmix (DW.runS [] 1000 _ _ _ _ _ _ rfl ?_))
  refine WR.ret ⟨rfl, rfl, ⟨_, rfl, VLe.refl _⟩, fun b _ => rfl⟩
 rw [show decide (kind = 3) = false from decide_eq_false h3]
 refine WR.condF rfl (WR.skip ?_)
 refine WR.seq (WR.seq (WR.reg (WQ.runS [] 4 _ _ _ _ rfl ?_)))
 by_cases h4 : kind = 4
 ·rw [show endS (.mk kind at_ name has xk xa xe xn xi tk ta tp tn targs xargs body els) = ((has && endL body) && endL els) from by simp only [endS, if_neg h3, if_pos h4]]
  rw [show (!decide (kind = 4)) = false from by rw [decide_eq_true h4]; rfl]
  cases has with
  | false =>
   refine WQ.runS [] 1000 _ _ _ _ rfl (WQ.nilS ?_)
   refine WR.condT rfl ?_
   repeat (first | refine WR.seq ?_ | refine WR.block ?_ | refine WR.scope ?_ | refine WR.skip ?_ | refine WR.exit ?_ | refine WR.condT rfl ?_ | refine WR.condF rfl ?_ | refine WR.reg (WQ.runS [] 1000 _ _ _ _ rfl ?_) | refine WQ.nilS ?_ | refine WR.dreg hmix (DW.runS [] 1000 _ _ _ _ _ _ rfl ?_))
   refine WR.ret ⟨rfl, rfl, ⟨_, rfl, VLe.refl _⟩, fun b _ => rfl⟩
  | true =>
   refine WQ.runS [] 1000 _ _ _ _ rfl (WQ.nilS ?_)
   refine WR.condF rfl (WR.skip ?_)
   refine WR.seq (WR.reg (WQ.runS [] 2 _ _ _ _ rfl ?_))
   refine WQ.callH rfl rfl rfl rfl rfl (ihN (szSs body) (by omega) body (Nat.le_refl _) okb lb _) .base rfl (WQ.runS [] 1000 _ _ _ _ rfl (WQ.nilS ?_))
   refine WR.seq (WR.reg (WQ.runS [] 2 _ _ _ _ rfl ?_))
   refine WQ.callH rfl rfl rfl rfl rfl (ihN (szSs els) (by omega) els (Nat.le_refl _) oke le _) .base rfl (WQ.runS [] 1000 _ _ _ _ rfl (WQ.nilS ?_))
   cases endL body with
   | false =>
    refine WR.seq (WR.reg (WQ.runS [] 1000 _ _ _ _ rfl (WQ.nilS ?_)))
    refine WR.ret ⟨rfl, rfl, ⟨_, rfl, VLe.refl _⟩, fun b _ => rfl⟩
   | true =>
    refine WR.seq (WR.reg (WQ.runS [] 1000 _ _ _ _ rfl (WQ.nilS ?_)))
    refine WR.ret ⟨rfl, rfl, ⟨_, rfl, VLe.refl _⟩, fun b _ => rfl⟩
 ·rw [show endS (.mk kind at_ name has xk xa xe xn xi tk ta tp tn targs xargs body els) = false from by simp only [endS, if_neg h3, if_neg h4]]
  rw [show (!decide (kind = 4)) = true from by rw [decide_eq_false h4]; rfl]
  refine WQ.runS [] 1000 _ _ _ _ rfl (WQ.nilS ?_)
  refine WR.condT rfl ?_
  repeat (first | refine WR.seq ?_ | refine WR.block ?_ | refine WR.scope ?_ | refine WR.skip ?_ | refine WR.exit ?_ | refine WR.condT rfl ?_ | refine WR.condF rfl ?_ | refine WR.reg (WQ.runS [] 1000 _ _ _ _ rfl ?_) | refine WQ.nilS ?_ | refine WR.dreg hmix (DW.runS [] 1000 _ _ _ _ _ _ rfl ?_))
  refine WR.ret ⟨rfl, rfl, ⟨_, rfl, VLe.refl _⟩, fun b _ => rfl⟩
end Go.VM
