/- laid for this seat: VsSig6 -/
import Derived.Test.YthacfmmgcbjagaaGreatDoorVsSig5
/- What a type of a text means: the program's function. -/
set_option maxRecDepth 100000
set_option linter.unusedVariables false
set_option linter.unusedSimpArgs false
namespace Go.VM
open Go.RowKit
theorem VLL.weak {l m : List V} (h : VLL l m) : Weak l m := fun _ _ r => h.ars r
def tyT : TM := [(2, .l 2 0), (3, .l 3 0), (4, .l 4 0), (5, .l 5 0), (6, .l 6 0)]
theorem nameP (s : SCx) (ok : okSc s) (k a : Int) (p n : List Nat) (l : List TX) {QN : S → Prop} {QX : X → S → Prop} (hq : ∀ st, RetS Go.Proofs.Tryz.prog Go.Proofs.Tryz.f10 (encD2 (namedF s a p n)) 1000 [] st → QX .ret st) :
  WR Go.Proofs.Tryz.prog [] ⟨Go.Proofs.Tryz.f10.ntmps, none, 10⟩ rc10_J5 (SL.toS ⟨tyT, [], none, 1000, [], nmLc s k a p n l⟩) QN QX := by
 unfold rc10_J5
 refine WR.seq (WR.seq (WR.reg (WQ.runS [] 1000 _ _ _ _ rfl (WQ.nilS ?_))))
 refine WR.cond rfl (fun c => ?_) (fun c => ?_)
 ·have c : ¬ p = [] := by simpa using c
  have hq2 : namedF s a p n = match fndF (fun x => decide (p = x)) s.im 0 with
   | none => ⟨zR, a, 10⟩
   | some _ => match hadF s p with
    | none => ⟨zR, 0, 0⟩
    | some q => match declF q n with
     | none => ⟨zR, a, 10⟩
     | some _ => ⟨.leaf 4 p n 0, 0, 0⟩ := by unfold namedF; rw [if_neg c]; rfl
  have hp := pkg_spec s ok p
  have hc := contains_spec s.im p ok.2.2.2.1
  refine WR.seq (WR.reg (WQ.runS [] 3 _ _ _ _ rfl ?_))
  refine WQ.callH rfl rfl rfl rfl rfl (hp _) .base rfl ?_
  cases h2 : hadF s p with
  | none =>
   rw [h2] at hq2
   have dc := decl_spec zIf zIf_ok n
   rw [show declF zIf n = none from rfl] at dc
   refine WQ.runS [] 1000 _ _ _ _ rfl (WQ.nilS ?_)
   refine WR.seq (WR.reg (WQ.runS [] 3 _ _ _ _ rfl ?_))
   refine WQ.callH rfl rfl rfl rfl rfl ((dc _).args (VLL.weak (by repeat (first | exact VLe.refl _ | exact VLe.unk _ _ | refine VLe.tup ?_ | refine VLe.agg ?_ | exact VLL.nil | refine VLL.cons ?_ ?_)))) .base rfl (WQ.runS [] 1000 _ _ _ _ rfl (WQ.nilS ?_))
   refine WR.seq (WR.block (WR.seq (WR.reg (WQ.runS [] 4 _ _ _ _ rfl ?_))))
   refine WQ.callH rfl rfl rfl rfl rfl (hc _) .base rfl ?_
   cases h1 : fndF (fun x => decide (p = x)) s.im 0 with
   | none =>
    rw [h1] at hq2
    refine WQ.runS [] 1000 _ _ _ _ rfl (WQ.nilS ?_)
    repeat (first | refine WR.seq ?_ | refine WR.block ?_ | refine WR.scope ?_ | refine WR.skip ?_ | refine WR.exit ?_ | refine WR.condT rfl ?_ | refine WR.condF rfl ?_ | refine WR.reg (WQ.runS [] 1000 _ _ _ _ rfl ?_) | refine WQ.nilS ?_ | refine WR.dreg hmix (DW.runS [] 1000 _ _ _ _ _ _ rfl ?_))
    refine DW.stS (by repeat (first | exact .nil | refine PendR.passM rfl ?_ | refine PendR.sameM rfl ?_ | refine PendR.lightM rfl ?_)) rfl rfl rfl rfl (DW.runS [] 1000 _ _ _ _ _ _ rfl ?_)
    refine DW.stS (by repeat (first | exact .nil | refine PendR.passM rfl ?_ | refine PendR.sameM rfl ?_ | refine PendR.lightM rfl ?_)) rfl rfl rfl rfl (DW.runS [] 1000 _ _ _ _ _ _ rfl ?_)
    refine DW.finS (by repeat (first | exact .nil | refine PendR.passM rfl ?_ | refine PendR.sameM rfl ?_ | refine PendR.lightM rfl ?_)) ?_
    exact WR.ret (hq _ ⟨rfl, rfl, ⟨_, rfl, by rw [hq2]; repeat (first | exact VLe.refl _ | exact VLe.unk _ _ | refine VLe.tup ?_ | refine VLe.agg ?_ | exact VLL.nil | refine VLL.cons ?_ ?_)⟩, fun b hb => rfl⟩)
   | some i =>
    rw [h1] at hq2
    refine WQ.runS [] 1000 _ _ _ _ rfl (WQ.nilS ?_)
    repeat (first | refine WR.seq ?_ | refine WR.block ?_ | refine WR.scope ?_ | refine WR.skip ?_ | refine WR.exit ?_ | refine WR.condT rfl ?_ | refine WR.condF rfl ?_ | refine WR.reg (WQ.runS [] 1000 _ _ _ _ rfl ?_) | refine WQ.nilS ?_ | refine WR.dreg hmix (DW.runS [] 1000 _ _ _ _ _ _ rfl ?_))
    exact WR.ret (hq _ ⟨rfl, rfl, ⟨_, rfl, by rw [hq2]; repeat (first | exact VLe.refl _ | exact VLe.unk _ _ | refine VLe.tup ?_ | refine VLe.agg ?_ | exact VLL.nil | refine VLL.cons ?_ ?_)⟩, fun b hb => rfl⟩)
  | some q =>
   rw [h2] at hq2
   have dc := decl_spec q (hadF_ok ok p h2) n
   refine WQ.runS [] 1000 _ _ _ _ rfl (WQ.nilS ?_)
   refine WR.seq (WR.reg (WQ.runS [] 3 _ _ _ _ rfl ?_))
   refine WQ.callH rfl rfl rfl rfl rfl (dc _) .base rfl ?_
   cases h3 : declF q n with
   | none =>
    refine WQ.runS [] 1000 _ _ _ _ rfl (WQ.nilS ?_)
    refine WR.seq (WR.block (WR.seq (WR.reg (WQ.runS [] 4 _ _ _ _ rfl ?_))))
    refine WQ.callH rfl rfl rfl rfl rfl (hc _) .base rfl ?_
    cases h1 : fndF (fun x => decide (p = x)) s.im 0 with
    | none =>
     rw [h1] at hq2
     refine WQ.runS [] 1000 _ _ _ _ rfl (WQ.nilS ?_)
     repeat (first | refine WR.seq ?_ | refine WR.block ?_ | refine WR.scope ?_ | refine WR.skip ?_ | refine WR.exit ?_ | refine WR.condT rfl ?_ | refine WR.condF rfl ?_ | refine WR.reg (WQ.runS [] 1000 _ _ _ _ rfl ?_) | refine WQ.nilS ?_ | refine WR.dreg hmix (DW.runS [] 1000 _ _ _ _ _ _ rfl ?_))
     refine DW.stS (by repeat (first | exact .nil | refine PendR.passM rfl ?_ | refine PendR.sameM rfl ?_ | refine PendR.lightM rfl ?_)) rfl rfl rfl rfl (DW.runS [] 1000 _ _ _ _ _ _ rfl ?_)
     refine DW.stS (by repeat (first | exact .nil | refine PendR.passM rfl ?_ | refine PendR.sameM rfl ?_ | refine PendR.lightM rfl ?_)) rfl rfl rfl rfl (DW.runS [] 1000 _ _ _ _ _ _ rfl ?_)
     refine DW.finS (by repeat (first | exact .nil | refine PendR.passM rfl ?_ | refine PendR.sameM rfl ?_ | refine PendR.lightM rfl ?_)) ?_
     exact WR.ret (hq _ ⟨rfl, rfl, ⟨_, rfl, by rw [hq2]; repeat (first | exact VLe.refl _ | exact VLe.unk _ _ | refine VLe.tup ?_ | refine VLe.agg ?_ | exact VLL.nil | refine VLL.cons ?_ ?_)⟩, fun b hb => rfl⟩)
    | some i =>
     rw [h1] at hq2
     dsimp only at hq2; rw [h3] at hq2
     refine WQ.runS [] 1000 _ _ _ _ rfl (WQ.nilS ?_)
     repeat (first | refine WR.seq ?_ | refine WR.block ?_ | refine WR.scope ?_ | refine WR.skip ?_ | refine WR.exit ?_ | refine WR.condT rfl ?_ | refine WR.condF rfl ?_ | refine WR.reg (WQ.runS [] 1000 _ _ _ _ rfl ?_) | refine WQ.nilS ?_ | refine WR.dreg hmix (DW.runS [] 1000 _ _ _ _ _ _ rfl ?_))
     refine DW.stS (by repeat (first | exact .nil | refine PendR.passM rfl ?_ | refine PendR.sameM rfl ?_ | refine PendR.lightM rfl ?_)) rfl rfl rfl rfl (DW.runS [] 1000 _ _ _ _ _ _ rfl ?_)
     refine DW.stS (by repeat (first | exact .nil | refine PendR.passM rfl ?_ | refine PendR.sameM rfl ?_ | refine PendR.lightM rfl ?_)) rfl rfl rfl rfl (DW.runS [] 1000 _ _ _ _ _ _ rfl ?_)
     refine DW.finS (by repeat (first | exact .nil | refine PendR.passM rfl ?_ | refine PendR.sameM rfl ?_ | refine PendR.lightM rfl ?_)) ?_
     exact WR.ret (hq _ ⟨rfl, rfl, ⟨_, rfl, by rw [hq2]; repeat (first | exact VLe.refl _ | exact VLe.unk _ _ | refine VLe.tup ?_ | refine VLe.agg ?_ | exact VLL.nil | refine VLL.cons ?_ ?_)⟩, fun b hb => rfl⟩)
   | some d =>
    refine WQ.runS [] 1000 _ _ _ _ rfl (WQ.nilS ?_)
    refine WR.seq (WR.block (WR.seq (WR.reg (WQ.runS [] 4 _ _ _ _ rfl ?_))))
    refine WQ.callH rfl rfl rfl rfl rfl (hc _) .base rfl ?_
    cases h1 : fndF (fun x => decide (p = x)) s.im 0 with
    | none =>
     rw [h1] at hq2
     refine WQ.runS [] 1000 _ _ _ _ rfl (WQ.nilS ?_)
     repeat (first | refine WR.seq ?_ | refine WR.block ?_ | refine WR.scope ?_ | refine WR.skip ?_ | refine WR.exit ?_ | refine WR.condT rfl ?_ | refine WR.condF rfl ?_ | refine WR.reg (WQ.runS [] 1000 _ _ _ _ rfl ?_) | refine WQ.nilS ?_ | refine WR.dreg hmix (DW.runS [] 1000 _ _ _ _ _ _ rfl ?_))
     refine DW.stS (by repeat (first | exact .nil | refine PendR.passM rfl ?_ | refine PendR.sameM rfl ?_ | refine PendR.lightM rfl ?_)) rfl rfl rfl rfl (DW.runS [] 1000 _ _ _ _ _ _ rfl ?_)
     refine DW.stS (by repeat (first | exact .nil | refine PendR.passM rfl ?_ | refine PendR.sameM rfl ?_ | refine PendR.lightM rfl ?_)) rfl rfl rfl rfl (DW.runS [] 1000 _ _ _ _ _ _ rfl ?_)
     refine DW.finS (by repeat (first | exact .nil | refine PendR.passM rfl ?_ | refine PendR.sameM rfl ?_ | refine PendR.lightM rfl ?_)) ?_
     exact WR.ret (hq _ ⟨rfl, rfl, ⟨_, rfl, by rw [hq2]; repeat (first | exact VLe.refl _ | exact VLe.unk _ _ | refine VLe.tup ?_ | refine VLe.agg ?_ | exact VLL.nil | refine VLL.cons ?_ ?_)⟩, fun b hb => rfl⟩)
    | some i =>
     rw [h1] at hq2
     dsimp only at hq2; rw [h3] at hq2
     refine WQ.runS [] 1000 _ _ _ _ rfl (WQ.nilS ?_)
     repeat (first | refine WR.seq ?_ | refine WR.block ?_ | refine WR.scope ?_ | refine WR.skip ?_ | refine WR.exit ?_ | refine WR.condT rfl ?_ | refine WR.condF rfl ?_ | refine WR.reg (WQ.runS [] 1000 _ _ _ _ rfl ?_) | refine WQ.nilS ?_ | refine WR.dreg hmix (DW.runS [] 1000 _ _ _ _ _ _ rfl ?_))
     exact WR.ret (hq _ ⟨rfl, rfl, ⟨_, rfl, by rw [hq2]; repeat (first | exact VLe.refl _ | exact VLe.unk _ _ | refine VLe.tup ?_ | refine VLe.agg ?_ | exact VLL.nil | refine VLL.cons ?_ ?_)⟩, fun b hb => rfl⟩)
 ·have c : p = [] := by simpa using c
  subst c
  have hq2 : namedF s a [] n = match fndF (fun x => decide (n = x)) s.nm 0 with
   | some i => ⟨.leaf 6 [] n i, 0, 0⟩
   | none => match declF (ownF s) n with
    | some _ => ⟨.leaf 4 (ownF s).pkg n 0, 0, 0⟩
    | none => ⟨zR, a, 10⟩ := by unfold namedF; rw [if_pos rfl]; rfl
  have hx := index_spec s.nm n ok.2.2.2.2.1
  have dc := decl_spec (ownF s) (ownF_ok ok) n
  have wrong : ∀ tm : TM, TellT tm (nmLc s k a [] n l) tyT → ∀ lc : LM, TellL lc (nmLc s k a [] n l) → namedF s a [] n = ⟨zR, a, 10⟩ → ∀ ol, (∀ b, b < 1000 → og [] b = og ol b) → ∀ nx, WR Go.Proofs.Tryz.prog [] ⟨Go.Proofs.Tryz.f10.ntmps, none, 10⟩ rc10_J3 (SL.toS ⟨tm, [], none, nx, ol, lc⟩) QN QX := by
   intro tm ht lc hl he ol hol nx
   refine WR.weak (SW.tellR ht hl) ?_
   unfold rc10_J3
   repeat (first | refine WR.seq ?_ | refine WR.block ?_ | refine WR.scope ?_ | refine WR.skip ?_ | refine WR.exit ?_ | refine WR.condT rfl ?_ | refine WR.condF rfl ?_ | refine WR.reg (WQ.runS [] 1000 _ _ _ _ rfl ?_) | refine WQ.nilS ?_ | refine WR.dreg hmix (DW.runS [] 1000 _ _ _ _ _ _ rfl ?_))
   refine DW.stS (by repeat (first | exact .nil | refine PendR.passM rfl ?_ | refine PendR.sameM rfl ?_ | refine PendR.lightM rfl ?_)) rfl rfl rfl rfl (DW.runS [] 1000 _ _ _ _ _ _ rfl ?_)
   refine DW.stS (by repeat (first | exact .nil | refine PendR.passM rfl ?_ | refine PendR.sameM rfl ?_ | refine PendR.lightM rfl ?_)) rfl rfl rfl rfl (DW.runS [] 1000 _ _ _ _ _ _ rfl ?_)
   refine DW.finS (by repeat (first | exact .nil | refine PendR.passM rfl ?_ | refine PendR.sameM rfl ?_ | refine PendR.lightM rfl ?_)) ?_
   exact WR.ret (hq _ ⟨rfl, rfl, ⟨_, rfl, by rw [he]; repeat (first | exact VLe.refl _ | exact VLe.unk _ _ | refine VLe.tup ?_ | refine VLe.agg ?_ | exact VLL.nil | refine VLL.cons ?_ ?_)⟩, hol⟩)
  refine WR.skip ?_
  show WR Go.Proofs.Tryz.prog [] _ rc10_J4 _ _ _
  unfold rc10_J4
  refine WR.seq (WR.seq (WR.reg (WQ.runS [] 4 _ _ _ _ rfl ?_)))
  refine WQ.callH rfl rfl rfl rfl rfl (hx _) .base rfl (WQ.runS [] 1000 _ _ _ _ rfl (WQ.nilS ?_))
  cases h1 : fndF (fun x => decide (n = x)) s.nm 0 with
  | some i =>
   rw [h1] at hq2
   refine WR.seq (WR.reg (WQ.runS [] 2 _ _ _ _ rfl ?_))
   rw [show decide (fndV (some i) ≥ 0) = true from decide_eq_true (by show (i : Int) ≥ 0; omega)]
   refine WQ.nilS (WR.condT rfl ?_)
   repeat (first | refine WR.seq ?_ | refine WR.block ?_ | refine WR.scope ?_ | refine WR.skip ?_ | refine WR.exit ?_ | refine WR.condT rfl ?_ | refine WR.condF rfl ?_ | refine WR.reg (WQ.runS [] 1000 _ _ _ _ rfl ?_) | refine WQ.nilS ?_ | refine WR.dreg hmix (DW.runS [] 1000 _ _ _ _ _ _ rfl ?_))
   exact WR.ret (hq _ ⟨rfl, rfl, ⟨_, rfl, by rw [hq2]; repeat (first | exact VLe.refl _ | exact VLe.unk _ _ | refine VLe.tup ?_ | refine VLe.agg ?_ | exact VLL.nil | refine VLL.cons ?_ ?_)⟩, fun b hb => rfl⟩)
  | none =>
   rw [h1] at hq2
   obtain ⟨w, im, nm, bo, va⟩ := s
   cases w with
   | nil =>
    refine WR.seq (WR.reg (WQ.runS [] 1000 _ _ _ _ rfl (WQ.nilS (WR.condF rfl (WR.skip ?_)))))
    refine WR.seq (WR.seq (WR.reg (WQ.runS [] 1000 _ _ _ _ rfl (WQ.nilS (WR.condF rfl (WR.skip ?_))))))
    refine wrong _ ?_ _ ?_ hq2 _ (fun _ _ => rfl) _
    ·repeat (first | exact .nil | refine .cons rfl (.v (VLe.refl _)) ?_ | refine .cons rfl (.l _ _ rfl) ?_)
    ·repeat (first | exact .nil | refine .cons rfl (.inl rfl) ?_)
   | cons o r =>
    refine WR.seq (WR.reg (WQ.runS [] 1000 _ _ _ _ rfl (WQ.nilS (WR.condF rfl (WR.skip ?_)))))
    refine WR.seq (WR.seq (WR.reg (WQ.runS [] 4 _ _ _ _ rfl ?_)))
    rw [show decide ((((o :: r).map encIf).length : Int) > 0) = true from decide_eq_true (by rw [List.length_map, List.length_cons]; omega)]
    refine WQ.nilS (WR.condT rfl ?_)
    refine WR.seq (WR.dreg hmix (DW.runS [] 1000 _ _ _ _ _ _ rfl ?_))
    refine DW.callH (by repeat (first | exact .nil | refine PendR.passM rfl ?_ | refine PendR.sameM rfl ?_ | refine PendR.lightM rfl ?_)) rfl rfl rfl rfl rfl (dc _) .base rfl ?_
    cases hd : declF o n with
    | none =>
     rw [show declF (ownF ⟨o :: r, im, nm, bo, va⟩) n = none from hd] at hq2 ⊢
     refine DW.runS [] 1000 _ _ _ _ _ _ rfl ?_
     refine DW.stS (by repeat (first | exact .nil | refine PendR.passM rfl ?_ | refine PendR.sameM rfl ?_ | refine PendR.lightM rfl ?_)) rfl rfl rfl rfl (DW.runS [] 1000 _ _ _ _ _ _ rfl ?_)
     refine DW.finS (by repeat (first | exact .nil | refine PendR.passM rfl ?_ | refine PendR.sameM rfl ?_ | refine PendR.lightM rfl ?_)) ?_
     refine WR.seq (WR.reg (WQ.runS [] 1000 _ _ _ _ rfl (WQ.nilS (WR.condF rfl (WR.skip ?_)))))
     refine wrong _ ?_ _ ?_ hq2 _ (fun b hb => (og_low (by rfl) b hb).symm) _
     ·repeat (first | exact .nil | refine .cons rfl (.v (VLe.refl _)) ?_ | refine .cons rfl (.l _ _ rfl) ?_)
     ·repeat (first | exact .nil | refine .cons rfl (.inl rfl) ?_)
    | some d =>
     rw [show declF (ownF ⟨o :: r, im, nm, bo, va⟩) n = some d from hd] at hq2 ⊢
     refine DW.runS [] 1000 _ _ _ _ _ _ rfl ?_
     refine DW.stS (by repeat (first | exact .nil | refine PendR.passM rfl ?_ | refine PendR.sameM rfl ?_ | refine PendR.lightM rfl ?_)) rfl rfl rfl rfl (DW.runS [] 1000 _ _ _ _ _ _ rfl ?_)
     refine DW.finS (by repeat (first | exact .nil | refine PendR.passM rfl ?_ | refine PendR.sameM rfl ?_ | refine PendR.lightM rfl ?_)) ?_
     refine WR.seq (WR.reg (WQ.runS [] 1000 _ _ _ _ rfl (WQ.nilS (WR.condT rfl ?_))))
     refine WR.seq (WR.dreg hmix (DW.runS [] 1000 _ _ _ _ _ _ rfl ?_))
     refine DW.stS (by repeat (first | exact .nil | refine PendR.passM rfl ?_ | refine PendR.sameM rfl ?_ | refine PendR.lightM rfl ?_)) rfl rfl rfl rfl (DW.runS [] 1000 _ _ _ _ _ _ rfl ?_)
     refine DW.stS (by repeat (first | exact .nil | refine PendR.passM rfl ?_ | refine PendR.sameM rfl ?_ | refine PendR.lightM rfl ?_)) rfl rfl rfl rfl (DW.runS [] 1000 _ _ _ _ _ _ rfl ?_)
     refine DW.finS (by repeat (first | exact .nil | refine PendR.passM rfl ?_ | refine PendR.sameM rfl ?_ | refine PendR.lightM rfl ?_)) ?_
     exact WR.ret (hq _ ⟨rfl, rfl, ⟨_, rfl, by rw [hq2]; repeat (first | exact VLe.refl _ | exact VLe.unk _ _ | refine VLe.tup ?_ | refine VLe.agg ?_ | exact VLL.nil | refine VLL.cons ?_ ?_)⟩, fun b hb => (og_low (by rfl) b hb).symm⟩)
end Go.VM
