/- laid for this seat: VsSig -/
import Derived.Test.YthacfmmgcbjagaaGreatDoorRcSig
import Derived.Test.YthacfmmgcbjagaaGreatDoorVmR
import Derived.Test.YthacfmmgcbjagaaGreatDoorVmH
/- What a type of a text means: lists that are searched. -/
set_option maxRecDepth 100000
set_option linter.unusedVariables false
set_option linter.unusedSimpArgs false
namespace Go.VM
open Go.RowKit
theorem hmix : Go.Proofs.Tryz.prog.follows .mixedOrders = true := by kernel_rfl
def ksg (s : List Nat) : List V := [.str s]
def mxl : Nat := 9223372036854775807
theorem nextI {i : Nat} (h : i < mxl) : IntKind.i64.wrap ((i : Int) + 1) = ((i + 1 : Nat) : Int) := by
 unfold mxl at h
 rw [wrap64 (by omega) (by omega)]; rfl
theorem drop_get {α : Type} {l : List α} {i : Nat} (h : i < l.length) : ∃ x, l[i]? = some x ∧ l.drop i = x :: l.drop (i + 1) := ⟨l[i], List.getElem?_eq_getElem h, List.drop_eq_getElem_cons h⟩
def fndF {α : Type} (p : α → Bool) : List α → Nat → Option Nat
 | [], _ => none
 | x :: r, i => match p x with
  | true => some i
  | false => fndF p r (i + 1)
def fndV : Option Nat → Int
 | none => -1
 | some i => i
theorem ins_kss {D : Nat → Prop} : ∀ l : List (List Nat), Inss D (l.map ksg)
 | [] => trivial
 | _ :: l => ⟨⟨trivial, trivial⟩, ins_kss l⟩
def iTm (l : List (List Nat)) (s : List Nat) (i : Nat) : TM := [(0, .v (.lst (l.map ksg) .unk)), (1, .v (.str s)), (7, .v (.int .i64 (l.map ksg).length)), (8, .v (.int .i64 i))]
theorem idx_loop {QN : S → Prop} {QX : X → S → Prop} (l : List (List Nat)) (s : List Nat) (hl : l.length ≤ mxl) (r : Option Nat)
  (h0 : r = none → ∀ tm, QX (.exit 0) (SL.toS ⟨tm, [], none, 1000, [], []⟩)) (h1 : ∀ k, r = some k → ∀ st, RetS Go.Proofs.Tryz.prog Go.Proofs.Tryz.f23 (.int .i64 k) 1000 [] st → QX .ret st) : ∀ (m i : Nat), i + m = l.length → r = fndF (fun x => decide (s = x)) (l.drop i) i →
  WLr Go.Proofs.Tryz.prog [] ⟨Go.Proofs.Tryz.f23.ntmps, none, 23⟩ rc23_L1 (SL.toS ⟨iTm l s i, [], none, 1000, [], []⟩) QN QX := by
 have hll : (l.map ksg).length = l.length := List.length_map ..
 intro m
 induction m with
 | zero =>
  intro i hi hr
  unfold rc23_L1
  refine WLr.of ?_
  repeat (first | refine WR.seq ?_ | refine WR.block ?_ | refine WR.scope ?_ | refine WR.skip ?_ | refine WR.exit ?_ | refine WR.condT rfl ?_ | refine WR.condF rfl ?_ | refine WR.reg (WQ.runS [] 1000 _ _ _ _ rfl ?_) | refine WQ.nilS ?_ | refine WR.dreg hmix (DW.runS [] 1000 _ _ _ _ _ _ rfl ?_))
  refine WR.cond rfl (fun c => ?_) (fun c => ?_)
  ·have := of_decide_eq_true c; omega
  refine WR.exit (h0 ?_ _)
  rw [hr, List.drop_eq_nil_iff.2 (by omega)]; rfl
 | succ m ih =>
  intro i hi hr
  obtain ⟨x, hx, hd⟩ := drop_get (l := l) (i := i) (by omega)
  have g0 : (l.map ksg)[i]? = some (ksg x) := by rw [List.getElem?_map, hx]; rfl
  rw [hd, fndF] at hr
  unfold rc23_L1
  refine WLr.of ?_
  repeat (first | refine WR.seq ?_ | refine WR.block ?_ | refine WR.scope ?_ | refine WR.skip ?_ | refine WR.exit ?_ | refine WR.condT rfl ?_ | refine WR.condF rfl ?_ | refine WR.reg (WQ.runS [] 1000 _ _ _ _ rfl ?_) | refine WQ.nilS ?_ | refine WR.dreg hmix (DW.runS [] 1000 _ _ _ _ _ _ rfl ?_))
  refine WR.cond rfl (fun c => ?_) (fun c => ?_)
  rotate_left
  ·have := of_decide_eq_false c; omega
  repeat (first | refine WR.seq ?_ | refine WR.block ?_ | refine WR.scope ?_ | refine WR.skip ?_ | refine WR.exit ?_ | refine WR.condT rfl ?_ | refine WR.condF rfl ?_ | refine WR.reg (WQ.runS [] 1000 _ _ _ _ rfl ?_) | refine WQ.nilS ?_ | refine WR.dreg hmix (DW.runS [] 1000 _ _ _ _ _ _ rfl ?_))
  refine WR.reg (WQ.runS [] 3 _ _ _ _ rfl ?_)
  refine WQ.lightS rfl rfl rfl (ia_at rfl rfl g0 rfl) rfl (WQ.runS [] 2 _ _ _ _ rfl ?_)
  cases hb : decide (s = x)
  ·rw [hb] at hr
   refine WQ.nilS (WR.condF rfl (WR.skip ?_))
   unfold rc23_J1
   refine WR.reg (WQ.runS [] 1000 _ _ _ _ rfl (WQ.nilS ?_))
   rw [nextI (by unfold mxl at hl ⊢; omega)]
   refine WIr.again (WLr.weak ?_ (ih (i + 1) (by omega) hr))
   refine SW.tellR ?_ ?_
   ·repeat (first | exact .nil | refine .cons rfl (.v (VLe.refl _)) ?_ | refine .cons rfl (.l _ _ rfl) ?_ | refine .cons rfl (.v (VLe.unk _ _)) ?_)
   ·repeat (first | exact .nil | refine .cons rfl (.inl rfl) ?_)
  ·rw [hb] at hr
   refine WQ.nilS (WR.condT rfl ?_)
   refine WR.seq (WR.reg (WQ.runS [] 1000 _ _ _ _ rfl (WQ.nilS ?_)))
   exact WR.ret (h1 i hr _ ⟨rfl, rfl, ⟨_, rfl, VLe.refl _⟩, fun _ _ => rfl⟩)
theorem index_spec (l : List (List Nat)) (s : List Nat) (hl : l.length ≤ mxl) (h : H) : SCall Go.Proofs.Tryz.prog [] 23 [.lst (l.map ksg) .unk, .str s] none h (.ret (.int .i64 (fndV (fndF (fun x => decide (s = x)) l 0)))) none h := by
 refine SCall.pure0 rfl ?_ (by exact ⟨⟨ins_kss l, trivial⟩, trivial, trivial⟩) (by exact trivial) h
 refine SCall.listed (fn := Go.Proofs.Tryz.f23) (by kernel_rfl) res23 (by kernel_rfl) (by kernel_rfl) (Nat.le_refl _) rfl (trivial) trivial ?_
 unfold rc23
 repeat (first | refine WR.seq ?_ | refine WR.block ?_ | refine WR.scope ?_ | refine WR.skip ?_ | refine WR.exit ?_ | refine WR.condT rfl ?_ | refine WR.condF rfl ?_ | refine WR.reg (WQ.runS [] 1000 _ _ _ _ rfl ?_) | refine WQ.nilS ?_ | refine WR.dreg hmix (DW.runS [] 1000 _ _ _ _ _ _ rfl ?_))
 refine WR.loop (WLr.weak (s := SL.toS ⟨iTm l s 0, [], none, 1000, [], []⟩) ?_ (idx_loop l s hl (fndF (fun x => decide (s = x)) l 0) (fun hr tm => ?_) (fun k hr st q => ?_) l.length 0 (by omega) rfl))
 ·refine SW.tellR ?_ ?_
  ·repeat (first | exact .nil | refine .cons rfl (.v (VLe.refl _)) ?_ | refine .cons rfl (.l _ _ rfl) ?_ | refine .cons rfl (.v (VLe.unk _ _)) ?_)
  ·repeat (first | exact .nil | refine .cons rfl (.inl rfl) ?_)
 ·rw [hr]
  refine WR.weak (s := SL.toS ⟨[], [], none, 1000, [], []⟩) (SW.tellR .nil .nil) ?_
  unfold rc23_J2
  repeat (first | refine WR.seq ?_ | refine WR.block ?_ | refine WR.scope ?_ | refine WR.skip ?_ | refine WR.exit ?_ | refine WR.condT rfl ?_ | refine WR.condF rfl ?_ | refine WR.reg (WQ.runS [] 1000 _ _ _ _ rfl ?_) | refine WQ.nilS ?_ | refine WR.dreg hmix (DW.runS [] 1000 _ _ _ _ _ _ rfl ?_))
  refine WR.ret ⟨rfl, rfl, ⟨_, rfl, VLe.refl _⟩, fun b _ => rfl⟩
 ·rw [hr]; exact q
theorem contains_spec (l : List (List Nat)) (s : List Nat) (hl : l.length ≤ mxl) (h : H) : SCall Go.Proofs.Tryz.prog [] 22 [.lst (l.map ksg) .unk, .str s] none h (.ret (.bool (fndF (fun x => decide (s = x)) l 0).isSome)) none h := by
 refine SCall.pure0 rfl ?_ (by exact ⟨⟨ins_kss l, trivial⟩, trivial, trivial⟩) (by exact trivial) h
 refine SCall.listed (fn := Go.Proofs.Tryz.f22) (by kernel_rfl) res22 (by kernel_rfl) (by kernel_rfl) (Nat.le_refl _) rfl (trivial) trivial ?_
 unfold rc22
 refine WR.seq (WR.reg (WQ.runS [] 1000 _ _ _ _ rfl (WQ.nilS ?_)))
 refine WR.seq (WR.reg (WQ.runS [] 2 _ _ _ _ rfl ?_))
 refine WQ.callH rfl rfl rfl rfl rfl (index_spec l s hl _) .base rfl ?_
 cases fndF (fun x => decide (s = x)) l 0 with
 | none =>
  refine WQ.runS [] 1000 _ _ _ _ rfl (WQ.nilS ?_)
  refine WR.ret ⟨rfl, rfl, ⟨_, rfl, VLe.refl _⟩, fun b _ => rfl⟩
 | some k =>
  refine WQ.runS [] 1 _ _ _ _ rfl ?_
  rw [show decide (fndV (some k) ≥ 0) = true from decide_eq_true (by show (k : Int) ≥ 0; omega)]
  refine WQ.runS [] 1000 _ _ _ _ rfl (WQ.nilS ?_)
  refine WR.ret ⟨rfl, rfl, ⟨_, rfl, VLe.refl _⟩, fun b _ => rfl⟩
def hTm (l : List (List Nat)) (s : List Nat) (i : Nat) : TM := [(0, .v (.lst (l.map ksg) .unk)), (1, .v (.str s)), (5, .v (.int .i64 i))]
theorem has_loop {QN : S → Prop} {QX : X → S → Prop} (l : List (List Nat)) (s : List Nat) (hl : l.length ≤ mxl) (r : Option Nat)
  (h0 : r = none → ∀ tm, QX (.exit 0) (SL.toS ⟨tm, [], none, 1000, [], []⟩)) (h1 : ∀ k, r = some k → ∀ st, RetS Go.Proofs.Tryz.prog Go.Proofs.Tryz.f34 (.bool true) 1000 [] st → QX .ret st) : ∀ (m i : Nat), i + m = l.length → r = fndF (fun x => decide (s = x)) (l.drop i) i →
  WLr Go.Proofs.Tryz.prog [] ⟨Go.Proofs.Tryz.f34.ntmps, none, 34⟩ rc34_L1 (SL.toS ⟨hTm l s i, [], none, 1000, [], []⟩) QN QX := by
 have hll : (l.map ksg).length = l.length := List.length_map ..
 intro m
 induction m with
 | zero =>
  intro i hi hr
  unfold rc34_L1
  refine WLr.of ?_
  repeat (first | refine WR.seq ?_ | refine WR.block ?_ | refine WR.scope ?_ | refine WR.skip ?_ | refine WR.exit ?_ | refine WR.condT rfl ?_ | refine WR.condF rfl ?_ | refine WR.reg (WQ.runS [] 1000 _ _ _ _ rfl ?_) | refine WQ.nilS ?_ | refine WR.dreg hmix (DW.runS [] 1000 _ _ _ _ _ _ rfl ?_))
  refine WR.cond rfl (fun c => ?_) (fun c => ?_)
  ·have := of_decide_eq_true c; omega
  refine WR.exit (h0 ?_ _)
  rw [hr, List.drop_eq_nil_iff.2 (by omega)]; rfl
 | succ m ih =>
  intro i hi hr
  obtain ⟨x, hx, hd⟩ := drop_get (l := l) (i := i) (by omega)
  have g0 : (l.map ksg)[i]? = some (ksg x) := by rw [List.getElem?_map, hx]; rfl
  rw [hd, fndF] at hr
  unfold rc34_L1
  refine WLr.of ?_
  repeat (first | refine WR.seq ?_ | refine WR.block ?_ | refine WR.scope ?_ | refine WR.skip ?_ | refine WR.exit ?_ | refine WR.condT rfl ?_ | refine WR.condF rfl ?_ | refine WR.reg (WQ.runS [] 1000 _ _ _ _ rfl ?_) | refine WQ.nilS ?_ | refine WR.dreg hmix (DW.runS [] 1000 _ _ _ _ _ _ rfl ?_))
  refine WR.cond rfl (fun c => ?_) (fun c => ?_)
  rotate_left
  ·have := of_decide_eq_false c; omega
  repeat (first | refine WR.seq ?_ | refine WR.block ?_ | refine WR.scope ?_ | refine WR.skip ?_ | refine WR.exit ?_ | refine WR.condT rfl ?_ | refine WR.condF rfl ?_ | refine WR.reg (WQ.runS [] 1000 _ _ _ _ rfl ?_) | refine WQ.nilS ?_ | refine WR.dreg hmix (DW.runS [] 1000 _ _ _ _ _ _ rfl ?_))
  refine WR.reg (WQ.runS [] 2 _ _ _ _ rfl ?_)
  refine WQ.lightS rfl rfl rfl (ia_at rfl rfl g0 rfl) rfl (WQ.runS [] 3 _ _ _ _ rfl ?_)
  rw [show decide (x = s) = decide (s = x) from decide_eq_decide.2 ⟨Eq.symm, Eq.symm⟩]
  cases hb : decide (s = x)
  ·rw [hb] at hr
   refine WQ.nilS (WR.condF rfl (WR.skip ?_))
   unfold rc34_J1
   refine WR.reg (WQ.runS [] 1000 _ _ _ _ rfl (WQ.nilS ?_))
   rw [nextI (by unfold mxl at hl ⊢; omega)]
   refine WIr.again (WLr.weak ?_ (ih (i + 1) (by omega) hr))
   refine SW.tellR ?_ ?_
   ·repeat (first | exact .nil | refine .cons rfl (.v (VLe.refl _)) ?_ | refine .cons rfl (.l _ _ rfl) ?_ | refine .cons rfl (.v (VLe.unk _ _)) ?_)
   ·repeat (first | exact .nil | refine .cons rfl (.inl rfl) ?_)
  ·rw [hb] at hr
   refine WQ.nilS (WR.condT rfl ?_)
   refine WR.seq (WR.reg (WQ.runS [] 1000 _ _ _ _ rfl (WQ.nilS ?_)))
   exact WR.ret (h1 i hr _ ⟨rfl, rfl, ⟨_, rfl, VLe.refl _⟩, fun _ _ => rfl⟩)
theorem has_spec (l : List (List Nat)) (s : List Nat) (hl : l.length ≤ mxl) (h : H) : SCall Go.Proofs.Tryz.prog [] 34 [.lst (l.map ksg) .unk, .str s] none h (.ret (.bool (fndF (fun x => decide (s = x)) l 0).isSome)) none h := by
 refine SCall.pure0 rfl ?_ (by exact ⟨⟨ins_kss l, trivial⟩, trivial, trivial⟩) (by exact trivial) h
 refine SCall.listed (fn := Go.Proofs.Tryz.f34) (by kernel_rfl) res34 (by kernel_rfl) (by kernel_rfl) (Nat.le_refl _) rfl (trivial) trivial ?_
 unfold rc34
 repeat (first | refine WR.seq ?_ | refine WR.block ?_ | refine WR.scope ?_ | refine WR.skip ?_ | refine WR.exit ?_ | refine WR.condT rfl ?_ | refine WR.condF rfl ?_ | refine WR.reg (WQ.runS [] 1000 _ _ _ _ rfl ?_) | refine WQ.nilS ?_ | refine WR.dreg hmix (DW.runS [] 1000 _ _ _ _ _ _ rfl ?_))
 refine WR.loop (WLr.weak (s := SL.toS ⟨hTm l s 0, [], none, 1000, [], []⟩) ?_ (has_loop l s hl (fndF (fun x => decide (s = x)) l 0) (fun hr tm => ?_) (fun k hr st q => ?_) l.length 0 (by omega) rfl))
 ·refine SW.tellR ?_ ?_
  ·repeat (first | exact .nil | refine .cons rfl (.v (VLe.refl _)) ?_ | refine .cons rfl (.l _ _ rfl) ?_ | refine .cons rfl (.v (VLe.unk _ _)) ?_)
  ·repeat (first | exact .nil | refine .cons rfl (.inl rfl) ?_)
 ·rw [hr]
  refine WR.weak (s := SL.toS ⟨[], [], none, 1000, [], []⟩) (SW.tellR .nil .nil) ?_
  unfold rc34_J2
  repeat (first | refine WR.seq ?_ | refine WR.block ?_ | refine WR.scope ?_ | refine WR.skip ?_ | refine WR.exit ?_ | refine WR.condT rfl ?_ | refine WR.condF rfl ?_ | refine WR.reg (WQ.runS [] 1000 _ _ _ _ rfl ?_) | refine WQ.nilS ?_ | refine WR.dreg hmix (DW.runS [] 1000 _ _ _ _ _ _ rfl ?_))
  refine WR.ret ⟨rfl, rfl, ⟨_, rfl, VLe.refl _⟩, fun b _ => rfl⟩
 ·rw [hr]; exact q
end Go.VM
