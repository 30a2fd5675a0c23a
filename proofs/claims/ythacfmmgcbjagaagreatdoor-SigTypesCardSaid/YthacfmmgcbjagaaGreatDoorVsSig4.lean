/- laid for this seat: VsSig4 -/
import Derived.Test.YthacfmmgcbjagaaGreatDoorVsSig3
/- What a type of a text means: what a name means. -/
set_option maxRecDepth 100000
set_option linter.unusedVariables false
set_option linter.unusedSimpArgs false
namespace Go.VM
open Go.RowKit
inductive TX where
 | mk (k a : Int) (p n : List Nat) (l : List TX)
mutual
def encT : TX → List V
 | .mk k a p n l => [.int .i64 k, .int .i64 a, .str p, .str n, .lst (encTs l) .unk]
def encTs : List TX → List (List V)
 | [] => []
 | x :: r => encT x :: encTs r
end
theorem encTs_len : ∀ l : List TX, (encTs l).length = l.length
 | [] => rfl
 | x :: r => by simp only [encTs, List.length_cons, encTs_len r]
mutual
theorem encT_in {D : Nat → Prop} : ∀ x : TX, Ins D (encT x)
 | .mk k a p n l => ⟨trivial, trivial, trivial, trivial, ⟨encTs_in l, trivial⟩, trivial⟩
theorem encTs_in {D : Nat → Prop} : ∀ l : List TX, Inss D (encTs l)
 | [] => trivial
 | x :: r => ⟨encT_in x, encTs_in r⟩
end
def depT : TX → Nat
 | .mk _ _ _ _ [] => 0
 | .mk _ _ _ _ (x :: _) => depT x + 1
inductive TyM where
 | leaf (k : Int) (p n : List Nat) (i : Int)
 | lst (t : TyM)
def TyM.k : TyM → Int
 | .leaf k _ _ _ => k
 | .lst _ => 5
def TyM.p : TyM → List Nat
 | .leaf _ p _ _ => p
 | .lst _ => []
def TyM.n : TyM → List Nat
 | .leaf _ _ n _ => n
 | .lst _ => []
def TyM.i : TyM → Int
 | .leaf _ _ _ i => i
 | .lst _ => 0
def TyM.a : TyM → List (List V)
 | .leaf _ _ _ _ => []
 | .lst u => [[.int .i64 u.k, .str u.p, .str u.n, .int .i64 u.i, .lst u.a .unk]]
def encR (t : TyM) : List V := [.int .i64 t.k, .str t.p, .str t.n, .int .i64 t.i, .lst t.a .unk]
theorem TyM.a_in {D : Nat → Prop} : ∀ t : TyM, Inss D t.a
 | .leaf _ _ _ _ => trivial
 | .lst u => ⟨⟨trivial, trivial, trivial, trivial, ⟨a_in u, trivial⟩, trivial⟩, trivial⟩
theorem encR_in {D : Nat → Prop} (t : TyM) : Ins D (encR t) := ⟨trivial, trivial, trivial, trivial, ⟨t.a_in, trivial⟩, trivial⟩
def zR : TyM := .leaf 0 [] [] 0
structure TD2 where
 t : TyM
 at_ : Int
 code : Int
def encD2 (r : TD2) : V := .tup [.agg (encR r.t), .agg [.int .i64 r.at_, .int .i64 r.code]]
theorem encD2_in {D : Nat → Prop} (r : TD2) : (encD2 r).In D := ⟨encR_in r.t, ⟨trivial, trivial, trivial⟩, trivial⟩
def namedF (s : SCx) (a : Int) (p n : List Nat) : TD2 :=
 if p = [] then match fndF (fun x => decide (n = x)) s.nm 0 with
  | some i => ⟨.leaf 6 [] n i, 0, 0⟩
  | none => match declF (ownF s) n with
   | some _ => ⟨.leaf 4 (ownF s).pkg n 0, 0, 0⟩
   | none => ⟨zR, a, 10⟩
 else match fndF (fun x => decide (p = x)) s.im 0 with
  | none => ⟨zR, a, 10⟩
  | some _ => match hadF s p with
   | none => ⟨zR, 0, 0⟩
   | some q => match declF q n with
    | none => ⟨zR, a, 10⟩
    | some _ => ⟨.leaf 4 p n 0, 0, 0⟩
def zRc : List V := [.int .i64 0, .str [], .str [], .int .i64 0, .lst [] (.ex 0)]
def z2c : List V := [.int .i64 0, .int .i64 0]
def nmT0 : TM := [(2, .l 2 0), (3, .l 3 0), (4, .l 4 0), (5, .l 5 0), (6, .l 6 0)]
def nmTm (i : Nat) : TM := (7, .v (.int .i64 i)) :: nmT0
def nmLc (s : SCx) (k a : Int) (p n : List Nat) (l : List TX) : LM := [(6, [.int .i64 a, .int .i64 10]), (5, z2c), (4, zRc), (3, [.int .i64 k, .int .i64 a, .str p, .str n, .lst (encTs l) .unk]), (2, encSc s)]
theorem nm_loop {QN : S → Prop} {QX : X → S → Prop} (s : SCx) (ok : okSc s) (k a : Int) (p n : List Nat) (l : List TX) (r : Option Nat)
  (h0 : r = none → ∀ tm, TellT tm (nmLc s k a p n l) nmT0 → QX (.exit 0) (SL.toS ⟨tm, [], none, 1000, [], nmLc s k a p n l⟩)) (h1 : ∀ i : Nat, r = some i → ∀ st, RetS Go.Proofs.Tryz.prog Go.Proofs.Tryz.f24 (encD2 ⟨.leaf 6 [] n i, 0, 0⟩) 1000 [] st → QX .ret st) : ∀ (m i : Nat), i + m = s.nm.length → r = fndF (fun x => decide (n = x)) (s.nm.drop i) i →
  WLr Go.Proofs.Tryz.prog [] ⟨Go.Proofs.Tryz.f24.ntmps, none, 24⟩ rc24_L1 (SL.toS ⟨nmTm i, [], none, 1000, [], nmLc s k a p n l⟩) QN QX := by
 have hll : (s.nm.map ksg).length = s.nm.length := List.length_map ..
 have hl : s.nm.length ≤ mxl := ok.2.2.2.2.1
 intro m
 induction m with
 | zero =>
  intro i hi hr
  unfold rc24_L1
  refine WLr.of ?_
  repeat (first | refine WR.seq ?_ | refine WR.block ?_ | refine WR.scope ?_ | refine WR.skip ?_ | refine WR.exit ?_ | refine WR.condT rfl ?_ | refine WR.condF rfl ?_ | refine WR.reg (WQ.runS [] 1000 _ _ _ _ rfl ?_) | refine WQ.nilS ?_ | refine WR.dreg hmix (DW.runS [] 1000 _ _ _ _ _ _ rfl ?_))
  refine WR.cond rfl (fun c => ?_) (fun c => ?_)
  ·have := of_decide_eq_true c; omega
  refine WR.exit (h0 ?_ _ ?_)
  ·rw [hr, List.drop_eq_nil_iff.2 (by omega)]; rfl
  ·repeat (first | exact .nil | refine .cons rfl (.v (VLe.refl _)) ?_ | refine .cons rfl (.l _ _ rfl) ?_)
 | succ m ih =>
  intro i hi hr
  obtain ⟨x, hx, hd⟩ := drop_get (l := s.nm) (i := i) (by omega)
  have g0 : (s.nm.map ksg)[i]? = some (ksg x) := by rw [List.getElem?_map, hx]; rfl
  unfold rc24_L1
  refine WLr.of ?_
  repeat (first | refine WR.seq ?_ | refine WR.block ?_ | refine WR.scope ?_ | refine WR.skip ?_ | refine WR.exit ?_ | refine WR.condT rfl ?_ | refine WR.condF rfl ?_ | refine WR.reg (WQ.runS [] 1000 _ _ _ _ rfl ?_) | refine WQ.nilS ?_ | refine WR.dreg hmix (DW.runS [] 1000 _ _ _ _ _ _ rfl ?_))
  refine WR.cond rfl (fun c => ?_) (fun c => ?_)
  rotate_left
  ·have := of_decide_eq_false c; omega
  refine WR.skip (WR.seq (WR.block (WR.seq (WR.dreg hmix (DW.runS [] 3 _ _ _ _ _ _ rfl ?_)))))
  refine DW.pureS rfl (fun h => ia_at rfl rfl g0 rfl) rfl (DW.runS [] 4 _ _ _ _ _ _ rfl ?_)
  refine DW.finS (by repeat (first | exact .nil | refine PendR.passM rfl ?_ | refine PendR.sameM rfl ?_ | refine PendR.lightM rfl ?_)) ?_
  rw [show decide (x = n) = decide (n = x) from decide_eq_decide.2 ⟨Eq.symm, Eq.symm⟩]
  rw [hd, fndF] at hr
  cases hb : decide (n = x)
  ·rw [hb] at hr
   refine WR.condF rfl (WR.skip ?_)
   unfold rc24_J1
   refine WR.reg (WQ.runS [] 1000 _ _ _ _ rfl (WQ.nilS ?_))
   rw [nextI (by unfold mxl at hl ⊢; omega)]
   refine WIr.again (WLr.weak ?_ (ih (i + 1) (by omega) hr))
   refine SW.tellR ?_ ?_
   ·repeat (first | exact .nil | refine .cons rfl (.v (VLe.refl _)) ?_ | refine .cons rfl (.l _ _ rfl) ?_ | refine .cons rfl (.v (VLe.unk _ _)) ?_)
   ·repeat (first | exact .nil | refine .cons rfl (.inl rfl) ?_)
  ·rw [hb] at hr
   refine WR.condT rfl ?_
   repeat (first | refine WR.seq ?_ | refine WR.block ?_ | refine WR.scope ?_ | refine WR.skip ?_ | refine WR.exit ?_ | refine WR.condT rfl ?_ | refine WR.condF rfl ?_ | refine WR.reg (WQ.runS [] 1000 _ _ _ _ rfl ?_) | refine WQ.nilS ?_ | refine WR.dreg hmix (DW.runS [] 1000 _ _ _ _ _ _ rfl ?_))
   exact WR.ret (h1 i hr _ ⟨rfl, rfl, ⟨_, rfl, by repeat (first | exact VLe.refl _ | exact VLe.unk _ _ | refine VLe.tup ?_ | refine VLe.agg ?_ | exact VLL.nil | refine VLL.cons ?_ ?_)⟩, fun _ _ => rfl⟩)
theorem named_spec (s : SCx) (ok : okSc s) (k a : Int) (p n : List Nat) (l : List TX) (h : H) : SCall Go.Proofs.Tryz.prog [] 24 [.agg (encSc s), .agg [.int .i64 k, .int .i64 a, .str p, .str n, .lst (encTs l) .unk]] none h (.ret (encD2 (namedF s a p n))) none h := by
 refine SCall.pure0 rfl ?_ (by exact ⟨ok.ins, encT_in (.mk k a p n l), trivial⟩) (by exact encD2_in _) h
 refine SCall.listed (fn := Go.Proofs.Tryz.f24) (by kernel_rfl) res24 (by kernel_rfl) (by kernel_rfl) (Nat.le_refl _) rfl (trivial) (by exact encD2_in _) ?_
 unfold rc24
 repeat (first | refine WR.seq ?_ | refine WR.block ?_ | refine WR.scope ?_ | refine WR.skip ?_ | refine WR.exit ?_ | refine WR.condT rfl ?_ | refine WR.condF rfl ?_ | refine WR.reg (WQ.runS [] 1000 _ _ _ _ rfl ?_) | refine WQ.nilS ?_ | refine WR.dreg hmix (DW.runS [] 1000 _ _ _ _ _ _ rfl ?_))
 refine WR.cond rfl (fun c => ?_) (fun c => ?_)
 ·have c : p = [] := of_decide_eq_true c
  subst c
  have hq : namedF s a [] n = match fndF (fun x => decide (n = x)) s.nm 0 with
   | some i => ⟨.leaf 6 [] n i, 0, 0⟩
   | none => match declF (ownF s) n with
    | some _ => ⟨.leaf 4 (ownF s).pkg n 0, 0, 0⟩
    | none => ⟨zR, a, 10⟩ := by unfold namedF; rw [if_pos rfl]
  repeat (first | refine WR.seq ?_ | refine WR.block ?_ | refine WR.scope ?_ | refine WR.skip ?_ | refine WR.exit ?_ | refine WR.condT rfl ?_ | refine WR.condF rfl ?_ | refine WR.reg (WQ.runS [] 1000 _ _ _ _ rfl ?_) | refine WQ.nilS ?_ | refine WR.dreg hmix (DW.runS [] 1000 _ _ _ _ _ _ rfl ?_))
  refine WR.loop (WLr.weak (s := SL.toS ⟨nmTm 0, [], none, 1000, [], nmLc s k a [] n l⟩) ?_ (nm_loop s ok k a [] n l (fndF (fun x => decide (n = x)) s.nm 0) (fun hr tm ht => ?_) (fun i hr st q => ?_) s.nm.length 0 (by omega) rfl))
  ·refine SW.tellR ?_ ?_
   ·repeat (first | exact .nil | refine .cons rfl (.v (VLe.refl _)) ?_ | refine .cons rfl (.l _ _ rfl) ?_ | refine .cons rfl (.v (VLe.unk _ _)) ?_)
   ·repeat (first | exact .nil | refine .cons rfl (.inl rfl) ?_)
  ·rw [hr] at hq
   refine WR.weak (s := SL.toS ⟨nmT0, [], none, 1000, [], nmLc s k a [] n l⟩) (SW.tellR ht (by repeat (first | exact .nil | refine .cons rfl (.inl rfl) ?_))) ?_
   have oc := own_spec s ok
   have dc := declR_spec (ownF s) (ownF_ok ok) n
   unfold rc24_J2
   refine WR.seq (WR.reg (WQ.runS [] 1 _ _ _ _ rfl ?_))
   refine WQ.callH rfl rfl rfl rfl rfl (oc _) .base rfl (WQ.runS [] 1000 _ _ _ _ rfl (WQ.nilS ?_))
   refine WR.seq (WR.reg (WQ.runS [] 3 _ _ _ _ rfl ?_))
   refine WQ.callH rfl rfl rfl rfl rfl (dc _) .base rfl ?_
   cases hd : declF (ownF s) n with
   | none =>
    rw [hd] at hq
    rw [hq]
    refine WQ.runS [] 1000 _ _ _ _ rfl (WQ.nilS ?_)
    repeat (first | refine WR.seq ?_ | refine WR.block ?_ | refine WR.scope ?_ | refine WR.skip ?_ | refine WR.exit ?_ | refine WR.condT rfl ?_ | refine WR.condF rfl ?_ | refine WR.reg (WQ.runS [] 1000 _ _ _ _ rfl ?_) | refine WQ.nilS ?_ | refine WR.dreg hmix (DW.runS [] 1000 _ _ _ _ _ _ rfl ?_))
    refine DW.stS (by repeat (first | exact .nil | refine PendR.passM rfl ?_ | refine PendR.sameM rfl ?_ | refine PendR.lightM rfl ?_)) rfl rfl rfl rfl (DW.runS [] 1000 _ _ _ _ _ _ rfl ?_)
    refine DW.stS (by repeat (first | exact .nil | refine PendR.passM rfl ?_ | refine PendR.sameM rfl ?_ | refine PendR.lightM rfl ?_)) rfl rfl rfl rfl (DW.runS [] 1000 _ _ _ _ _ _ rfl ?_)
    refine DW.finS (by repeat (first | exact .nil | refine PendR.passM rfl ?_ | refine PendR.sameM rfl ?_ | refine PendR.lightM rfl ?_)) ?_
    exact WR.ret ⟨rfl, rfl, ⟨_, rfl, by repeat (first | exact VLe.refl _ | exact VLe.unk _ _ | refine VLe.tup ?_ | refine VLe.agg ?_ | exact VLL.nil | refine VLL.cons ?_ ?_)⟩, fun b hb => rfl⟩
   | some d =>
    rw [hd] at hq
    rw [hq]
    refine WQ.runS [] 1000 _ _ _ _ rfl (WQ.nilS ?_)
    repeat (first | refine WR.seq ?_ | refine WR.block ?_ | refine WR.scope ?_ | refine WR.skip ?_ | refine WR.exit ?_ | refine WR.condT rfl ?_ | refine WR.condF rfl ?_ | refine WR.reg (WQ.runS [] 1000 _ _ _ _ rfl ?_) | refine WQ.nilS ?_ | refine WR.dreg hmix (DW.runS [] 1000 _ _ _ _ _ _ rfl ?_))
    exact WR.ret ⟨rfl, rfl, ⟨_, rfl, by repeat (first | exact VLe.refl _ | exact VLe.unk _ _ | refine VLe.tup ?_ | refine VLe.agg ?_ | exact VLL.nil | refine VLL.cons ?_ ?_)⟩, fun b hb => rfl⟩
  ·rw [hr] at hq
   rw [hq]; exact q
 ·have c : ¬ p = [] := of_decide_eq_false c
  have hq : namedF s a p n = match fndF (fun x => decide (p = x)) s.im 0 with
   | none => ⟨zR, a, 10⟩
   | some _ => match hadF s p with
    | none => ⟨zR, 0, 0⟩
    | some q => match declF q n with
     | none => ⟨zR, a, 10⟩
     | some _ => ⟨.leaf 4 p n 0, 0, 0⟩ := by unfold namedF; rw [if_neg c]
  have hs := has_spec s.im p ok.2.2.2.1
  have hd := had_spec s ok p
  refine WR.skip ?_
  show WR Go.Proofs.Tryz.prog [] _ rc24_J3 _ _ _
  unfold rc24_J3
  refine WR.seq (WR.reg (WQ.runS [] 4 _ _ _ _ rfl ?_))
  refine WQ.callH rfl rfl rfl rfl rfl (hs _) .base rfl ?_
  cases h1 : fndF (fun x => decide (p = x)) s.im 0 with
  | none =>
   rw [h1] at hq
   rw [hq]
   refine WQ.runS [] 1000 _ _ _ _ rfl (WQ.nilS ?_)
   repeat (first | refine WR.seq ?_ | refine WR.block ?_ | refine WR.scope ?_ | refine WR.skip ?_ | refine WR.exit ?_ | refine WR.condT rfl ?_ | refine WR.condF rfl ?_ | refine WR.reg (WQ.runS [] 1000 _ _ _ _ rfl ?_) | refine WQ.nilS ?_ | refine WR.dreg hmix (DW.runS [] 1000 _ _ _ _ _ _ rfl ?_))
   refine DW.stS (by repeat (first | exact .nil | refine PendR.passM rfl ?_ | refine PendR.sameM rfl ?_ | refine PendR.lightM rfl ?_)) rfl rfl rfl rfl (DW.runS [] 1000 _ _ _ _ _ _ rfl ?_)
   refine DW.stS (by repeat (first | exact .nil | refine PendR.passM rfl ?_ | refine PendR.sameM rfl ?_ | refine PendR.lightM rfl ?_)) rfl rfl rfl rfl (DW.runS [] 1000 _ _ _ _ _ _ rfl ?_)
   refine DW.finS (by repeat (first | exact .nil | refine PendR.passM rfl ?_ | refine PendR.sameM rfl ?_ | refine PendR.lightM rfl ?_)) ?_
   exact WR.ret ⟨rfl, rfl, ⟨_, rfl, by repeat (first | exact VLe.refl _ | exact VLe.unk _ _ | refine VLe.tup ?_ | refine VLe.agg ?_ | exact VLL.nil | refine VLL.cons ?_ ?_)⟩, fun b hb => rfl⟩
  | some i =>
   rw [h1] at hq
   refine WQ.runS [] 1000 _ _ _ _ rfl (WQ.nilS ?_)
   refine WR.seq (WR.seq (WR.reg (WQ.runS [] 1000 _ _ _ _ rfl (WQ.nilS (WR.condF rfl (WR.skip ?_))))))
   refine WR.seq (WR.reg (WQ.runS [] 3 _ _ _ _ rfl ?_))
   refine WQ.callH rfl rfl rfl rfl rfl (hd _) .base rfl ?_
   cases h2 : hadF s p with
   | none =>
    rw [h2] at hq
    rw [hq]
    refine WQ.runS [] 1000 _ _ _ _ rfl (WQ.nilS ?_)
    repeat (first | refine WR.seq ?_ | refine WR.block ?_ | refine WR.scope ?_ | refine WR.skip ?_ | refine WR.exit ?_ | refine WR.condT rfl ?_ | refine WR.condF rfl ?_ | refine WR.reg (WQ.runS [] 1000 _ _ _ _ rfl ?_) | refine WQ.nilS ?_ | refine WR.dreg hmix (DW.runS [] 1000 _ _ _ _ _ _ rfl ?_))
    exact WR.ret ⟨rfl, rfl, ⟨_, rfl, by repeat (first | exact VLe.refl _ | exact VLe.unk _ _ | refine VLe.tup ?_ | refine VLe.agg ?_ | exact VLL.nil | refine VLL.cons ?_ ?_)⟩, fun b hb => rfl⟩
   | some q =>
    rw [h2] at hq
    have dc := declR_spec q (hadF_ok ok p h2) n
    refine WQ.runS [] 1000 _ _ _ _ rfl (WQ.nilS ?_)
    refine WR.seq (WR.seq (WR.reg (WQ.runS [] 1000 _ _ _ _ rfl (WQ.nilS (WR.condF rfl (WR.skip ?_))))))
    refine WR.seq (WR.reg (WQ.runS [] 3 _ _ _ _ rfl ?_))
    refine WQ.callH rfl rfl rfl rfl rfl (dc _) .base rfl ?_
    cases h3 : declF q n with
    | none =>
     dsimp only at hq; rw [h3] at hq
     rw [hq]
     refine WQ.runS [] 1000 _ _ _ _ rfl (WQ.nilS ?_)
     repeat (first | refine WR.seq ?_ | refine WR.block ?_ | refine WR.scope ?_ | refine WR.skip ?_ | refine WR.exit ?_ | refine WR.condT rfl ?_ | refine WR.condF rfl ?_ | refine WR.reg (WQ.runS [] 1000 _ _ _ _ rfl ?_) | refine WQ.nilS ?_ | refine WR.dreg hmix (DW.runS [] 1000 _ _ _ _ _ _ rfl ?_))
     refine DW.stS (by repeat (first | exact .nil | refine PendR.passM rfl ?_ | refine PendR.sameM rfl ?_ | refine PendR.lightM rfl ?_)) rfl rfl rfl rfl (DW.runS [] 1000 _ _ _ _ _ _ rfl ?_)
     refine DW.stS (by repeat (first | exact .nil | refine PendR.passM rfl ?_ | refine PendR.sameM rfl ?_ | refine PendR.lightM rfl ?_)) rfl rfl rfl rfl (DW.runS [] 1000 _ _ _ _ _ _ rfl ?_)
     refine DW.finS (by repeat (first | exact .nil | refine PendR.passM rfl ?_ | refine PendR.sameM rfl ?_ | refine PendR.lightM rfl ?_)) ?_
     exact WR.ret ⟨rfl, rfl, ⟨_, rfl, by repeat (first | exact VLe.refl _ | exact VLe.unk _ _ | refine VLe.tup ?_ | refine VLe.agg ?_ | exact VLL.nil | refine VLL.cons ?_ ?_)⟩, fun b hb => rfl⟩
    | some d =>
     dsimp only at hq; rw [h3] at hq
     rw [hq]
     refine WQ.runS [] 1000 _ _ _ _ rfl (WQ.nilS ?_)
     repeat (first | refine WR.seq ?_ | refine WR.block ?_ | refine WR.scope ?_ | refine WR.skip ?_ | refine WR.exit ?_ | refine WR.condT rfl ?_ | refine WR.condF rfl ?_ | refine WR.reg (WQ.runS [] 1000 _ _ _ _ rfl ?_) | refine WQ.nilS ?_ | refine WR.dreg hmix (DW.runS [] 1000 _ _ _ _ _ _ rfl ?_))
     exact WR.ret ⟨rfl, rfl, ⟨_, rfl, by repeat (first | exact VLe.refl _ | exact VLe.unk _ _ | refine VLe.tup ?_ | refine VLe.agg ?_ | exact VLL.nil | refine VLL.cons ?_ ?_)⟩, fun b hb => rfl⟩
end Go.VM
