/- laid for this seat: VsSig2 -/
import Derived.Test.YthacfmmgcbjagaaGreatDoorVsSig
/- What a type of a text means: packages that are searched. -/
set_option maxRecDepth 100000
set_option linter.unusedVariables false
set_option linter.unusedSimpArgs false
namespace Go.VM
open Go.RowKit
inductive VLL : List V → List V → Prop where
 | nil : VLL [] []
 | cons {a b : V} {l m : List V} (h : VLe a b) (t : VLL l m) : VLL (a :: l) (b :: m)
theorem VLL.ars {E : Env} : ∀ {l m : List V} {xs : List Value}, VLL l m → ARs E l xs → ARs E m xs
 | _, _, _, .nil, r => r
 | _, _, _, .cons h t, .cons _ _ _ _ r1 r2 => .cons _ _ _ _ (h E _ r1) (t.ars r2)
theorem VLe.agg {l m : List V} (h : VLL l m) : VLe (.agg l) (.agg m) := fun E x r => by
 cases r with | agg _ cs q => exact .agg _ _ (h.ars q)
theorem VLe.tup {l m : List V} (h : VLL l m) : VLe (.tup l) (.tup m) := fun E x r => by
 cases r with | tup _ cs q => exact .tup _ _ (h.ars q)
structure TDx where
 nm : List Nat
 st : Bool
 fs : List (List V)
 ms : List (List V)
def encTD (d : TDx) : List V := [.str d.nm, .bool d.st, .lst d.fs .unk, .lst d.ms .unk]
structure IFx where
 pkg : List Nat
 ts : List TDx
 fn : List (List V)
def encIf (p : IFx) : List V := [.str p.pkg, .lst (p.ts.map encTD) .unk, .lst p.fn .unk]
structure SCx where
 w : List IFx
 im : List (List Nat)
 nm : List (List Nat)
 bo : List (List V)
 va : List (List V)
def encSc (s : SCx) : List V := [.lst (s.w.map encIf) .unk, .lst (s.im.map ksg) .unk, .lst (s.nm.map ksg) .unk, .lst s.bo .unk, .lst s.va .unk]
def NoR (l : List (List V)) : Prop := Inss (fun _ => False) l
def okTD (d : TDx) : Prop := NoR d.fs ∧ NoR d.ms
def okIf (p : IFx) : Prop := NoR p.fn ∧ p.ts.length ≤ mxl ∧ ∀ d ∈ p.ts, okTD d
def okSc (s : SCx) : Prop := NoR s.bo ∧ NoR s.va ∧ s.w.length ≤ mxl ∧ s.im.length ≤ mxl ∧ s.nm.length ≤ mxl ∧ ∀ p ∈ s.w, okIf p
theorem inss_map {α : Type} {D : Nat → Prop} {f : α → List V} : ∀ {l : List α}, (∀ x ∈ l, Ins D (f x)) → Inss D (l.map f)
 | [], _ => trivial
 | x :: l, h => ⟨h x (List.mem_cons_self ..), inss_map (fun y hy => h y (List.mem_cons_of_mem _ hy))⟩
theorem NoR.ins {D : Nat → Prop} {l : List (List V)} (h : NoR l) : Inss D l := Inss.mono (fun _ q => q.elim) h
theorem okTD.ins {D : Nat → Prop} {d : TDx} (h : okTD d) : Ins D (encTD d) := ⟨trivial, trivial, ⟨h.1.ins, trivial⟩, ⟨h.2.ins, trivial⟩, trivial⟩
theorem okIf.ins {D : Nat → Prop} {p : IFx} (h : okIf p) : Ins D (encIf p) := ⟨trivial, ⟨inss_map (fun d hd => (h.2.2 d hd).ins), trivial⟩, ⟨h.1.ins, trivial⟩, trivial⟩
theorem okSc.ins {D : Nat → Prop} {s : SCx} (h : okSc s) : Ins D (encSc s) := ⟨⟨inss_map (fun p hp => (h.2.2.2.2.2 p hp).ins), trivial⟩, ⟨ins_kss _, trivial⟩, ⟨ins_kss _, trivial⟩, ⟨h.1.ins, trivial⟩, ⟨h.2.1.ins, trivial⟩, trivial⟩
def zTD : TDx := ⟨[], false, [], []⟩
def zIf : IFx := ⟨[], [], []⟩
def fdF {α : Type} (p : α → Bool) : List α → Option α
 | [] => none
 | x :: r => match p x with
  | true => some x
  | false => fdF p r
theorem fdF_mem {α : Type} {p : α → Bool} : ∀ {l : List α} {x : α}, fdF p l = some x → x ∈ l ∧ p x = true
 | [], x, h => by cases h
 | y :: l, x, h => by
  simp only [fdF] at h
  split at h
  ·rename_i q; cases h; exact ⟨List.mem_cons_self .., q⟩
  ·exact ⟨List.mem_cons_of_mem _ (fdF_mem h).1, (fdF_mem h).2⟩
theorem fnd_fd {α : Type} {p : α → Bool} : ∀ (l : List α) (i : Nat), (fndF p l i = none → fdF p l = none) ∧ ∀ k, fndF p l i = some k → l[k - i]? = fdF p l ∧ i ≤ k ∧ (fdF p l).isSome = true
 | [], i => ⟨fun _ => rfl, fun k h => by cases h⟩
 | x :: l, i => by
  simp only [fndF, fdF]
  cases p x with
  | true => exact ⟨fun h => (by cases h), fun k h => by cases h; exact ⟨by simp, Nat.le_refl _, rfl⟩⟩
  | false =>
   obtain ⟨h1, h2⟩ := fnd_fd (p := p) l (i + 1)
   refine ⟨h1, fun k h => ?_⟩
   obtain ⟨h3, h4, h5⟩ := h2 k h
   have : k - i = (k - (i + 1)) + 1 := by omega
   exact ⟨by rw [this]; simpa using h3, by omega, h5⟩
def nmOl (s : List Nat) : OL := [(1000, .cells false [.str s])]
theorem decl1_spec (d : TDx) (ok : okTD d) (s : List Nat) : SCall Go.Proofs.Tryz.prog [] 31 [.agg (encTD d), .ptr 1000 0] none ⟨1001, og (nmOl s), []⟩ (.ret (.bool (decide (d.nm = s)))) none ⟨1001, og (nmOl s), []⟩ := by
 refine SCall.listed (fn := Go.Proofs.Tryz.f31) (by kernel_rfl) res31 (by kernel_rfl) (by kernel_rfl) (Nat.le_refl _) rfl ((by exact ⟨⟨trivial, trivial⟩, trivial⟩)) trivial ?_
 unfold rc31
 repeat (first | refine WR.seq ?_ | refine WR.block ?_ | refine WR.scope ?_ | refine WR.skip ?_ | refine WR.exit ?_ | refine WR.condT rfl ?_ | refine WR.condF rfl ?_ | refine WR.reg (WQ.runS [] 1000 _ _ _ _ rfl ?_) | refine WQ.nilS ?_ | refine WR.dreg hmix (DW.runS [] 1000 _ _ _ _ _ _ rfl ?_))
 refine WR.ret ⟨rfl, rfl, ⟨_, rfl, VLe.refl _⟩, fun b _ => rfl⟩
def dfTm (l : List TDx) (i : Nat) : TM := [(0, .v (.lst (l.map encTD) .unk)), (1, .v (.fn (.func 31) [] [.ptr 1000 0])), (7, .v (.int .i64 (l.map encTD).length)), (8, .v (.int .i64 i))]
theorem df_loop {QN : S → Prop} {QX : X → S → Prop} (l : List TDx) (ok : ∀ d ∈ l, okTD d) (s : List Nat) (hl : l.length ≤ mxl) (r : Option Nat)
  (h0 : r = none → ∀ tm, QX (.exit 0) (SL.toS ⟨tm, [], none, 1001, nmOl s, []⟩)) (h1 : ∀ k, r = some k → ∀ st, RetS Go.Proofs.Tryz.prog Go.Proofs.Tryz.f30 (.int .i64 k) 1001 (nmOl s) st → QX .ret st) : ∀ (m i : Nat), i + m = l.length → r = fndF (fun d => decide (d.nm = s)) (l.drop i) i →
  WLr Go.Proofs.Tryz.prog [] ⟨Go.Proofs.Tryz.f30.ntmps, none, 30⟩ rc30_L1 (SL.toS ⟨dfTm l i, [], none, 1001, nmOl s, []⟩) QN QX := by
 have hll : (l.map encTD).length = l.length := List.length_map ..
 intro m
 induction m with
 | zero =>
  intro i hi hr
  unfold rc30_L1
  refine WLr.of ?_
  repeat (first | refine WR.seq ?_ | refine WR.block ?_ | refine WR.scope ?_ | refine WR.skip ?_ | refine WR.exit ?_ | refine WR.condT rfl ?_ | refine WR.condF rfl ?_ | refine WR.reg (WQ.runS [] 1000 _ _ _ _ rfl ?_) | refine WQ.nilS ?_ | refine WR.dreg hmix (DW.runS [] 1000 _ _ _ _ _ _ rfl ?_))
  refine WR.cond rfl (fun c => ?_) (fun c => ?_)
  ·have := of_decide_eq_true c; omega
  refine WR.exit (h0 ?_ _)
  rw [hr, List.drop_eq_nil_iff.2 (by omega)]; rfl
 | succ m ih =>
  intro i hi hr
  obtain ⟨x, hx, hd⟩ := drop_get (l := l) (i := i) (by omega)
  have g0 : (l.map encTD)[i]? = some (encTD x) := by rw [List.getElem?_map, hx]; rfl
  rw [hd, fndF] at hr
  unfold rc30_L1
  refine WLr.of ?_
  repeat (first | refine WR.seq ?_ | refine WR.block ?_ | refine WR.scope ?_ | refine WR.skip ?_ | refine WR.exit ?_ | refine WR.condT rfl ?_ | refine WR.condF rfl ?_ | refine WR.reg (WQ.runS [] 1000 _ _ _ _ rfl ?_) | refine WQ.nilS ?_ | refine WR.dreg hmix (DW.runS [] 1000 _ _ _ _ _ _ rfl ?_))
  refine WR.cond rfl (fun c => ?_) (fun c => ?_)
  rotate_left
  ·have := of_decide_eq_false c; omega
  repeat (first | refine WR.seq ?_ | refine WR.block ?_ | refine WR.scope ?_ | refine WR.skip ?_ | refine WR.exit ?_ | refine WR.condT rfl ?_ | refine WR.condF rfl ?_ | refine WR.reg (WQ.runS [] 1000 _ _ _ _ rfl ?_) | refine WQ.nilS ?_ | refine WR.dreg hmix (DW.runS [] 1000 _ _ _ _ _ _ rfl ?_))
  refine WR.reg (WQ.runS [] 3 _ _ _ _ rfl ?_)
  refine WQ.lightS rfl rfl rfl (ia_at rfl rfl g0 rfl) rfl (WQ.runS [] 1 _ _ _ _ rfl ?_)
  refine WQ.callH rfl rfl rfl rfl rfl (decl1_spec x (ok x (List.mem_of_getElem? hx)) s) .base rfl ?_
  cases hb : decide (x.nm = s)
  ·rw [hb] at hr
   refine WQ.nilS (WR.condF rfl (WR.skip ?_))
   unfold rc30_J1
   refine WR.reg (WQ.runS [] 1000 _ _ _ _ rfl (WQ.nilS ?_))
   rw [nextI (by unfold mxl at hl ⊢; omega)]
   refine WIr.again (WLr.weak ?_ (ih (i + 1) (by omega) hr))
   refine SW.tellR ?_ ?_
   ·repeat (first | exact .nil | refine .cons rfl (.v (VLe.refl _)) ?_ | refine .cons rfl (.l _ _ rfl) ?_ | refine .cons rfl (.v (VLe.unk _ _)) ?_)
   ·repeat (first | exact .nil | refine .cons rfl (.inl rfl) ?_)
  ·rw [hb] at hr
   refine WQ.nilS (WR.condT rfl ?_)
   refine WR.seq (WR.reg (WQ.runS [] 1000 _ _ _ _ rfl (WQ.nilS ?_)))
   exact WR.ret (h1 i hr _ ⟨rfl, rfl, ⟨_, rfl, VLe.refl _⟩, fun _ _ => rfl⟩)
theorem indexF_spec (l : List TDx) (ok : ∀ d ∈ l, okTD d) (s : List Nat) (hl : l.length ≤ mxl) : SCall Go.Proofs.Tryz.prog [] 30 [.lst (l.map encTD) .unk, .fn (.func 31) [] [.ptr 1000 0]] none ⟨1001, og (nmOl s), []⟩ (.ret (.int .i64 (fndV (fndF (fun d => decide (d.nm = s)) l 0)))) none ⟨1001, og (nmOl s), []⟩ := by
 refine SCall.listed (fn := Go.Proofs.Tryz.f30) (by kernel_rfl) res30 (by kernel_rfl) (by kernel_rfl) (Nat.le_refl _) rfl ((by exact ⟨⟨trivial, trivial⟩, trivial⟩)) trivial ?_
 unfold rc30
 repeat (first | refine WR.seq ?_ | refine WR.block ?_ | refine WR.scope ?_ | refine WR.skip ?_ | refine WR.exit ?_ | refine WR.condT rfl ?_ | refine WR.condF rfl ?_ | refine WR.reg (WQ.runS [] 1000 _ _ _ _ rfl ?_) | refine WQ.nilS ?_ | refine WR.dreg hmix (DW.runS [] 1000 _ _ _ _ _ _ rfl ?_))
 refine WR.loop (WLr.weak (s := SL.toS ⟨dfTm l 0, [], none, 1001, nmOl s, []⟩) ?_ (df_loop l ok s hl (fndF (fun d => decide (d.nm = s)) l 0) (fun hr tm => ?_) (fun k hr st q => ?_) l.length 0 (by omega) rfl))
 ·refine SW.tellR ?_ ?_
  ·repeat (first | exact .nil | refine .cons rfl (.v (VLe.refl _)) ?_ | refine .cons rfl (.l _ _ rfl) ?_ | refine .cons rfl (.v (VLe.unk _ _)) ?_)
  ·repeat (first | exact .nil | refine .cons rfl (.inl rfl) ?_)
 ·rw [hr]
  refine WR.weak (s := SL.toS ⟨[], [], none, 1001, nmOl s, []⟩) (SW.tellR .nil .nil) ?_
  unfold rc30_J2
  repeat (first | refine WR.seq ?_ | refine WR.block ?_ | refine WR.scope ?_ | refine WR.skip ?_ | refine WR.exit ?_ | refine WR.condT rfl ?_ | refine WR.condF rfl ?_ | refine WR.reg (WQ.runS [] 1000 _ _ _ _ rfl ?_) | refine WQ.nilS ?_ | refine WR.dreg hmix (DW.runS [] 1000 _ _ _ _ _ _ rfl ?_))
  refine WR.ret ⟨rfl, rfl, ⟨_, rfl, VLe.refl _⟩, fun b _ => rfl⟩
 ·rw [hr]; exact q
def encOT : Option TDx → List V
 | some d => encTD d
 | none => encTD zTD
def declF (p : IFx) (s : List Nat) : Option TDx := fdF (fun d => decide (d.nm = s)) p.ts
theorem declF_in {D : Nat → Prop} {p : IFx} (ok : okIf p) (s : List Nat) : Ins D (encOT (declF p s)) := by
 cases h : declF p s with
 | none => exact ⟨trivial, trivial, ⟨trivial, trivial⟩, ⟨trivial, trivial⟩, trivial⟩
 | some d => exact (ok.2.2 d (fdF_mem h).1).ins
theorem decl_spec (p : IFx) (ok : okIf p) (s : List Nat) (h : H) : SCall Go.Proofs.Tryz.prog [] 21 [.agg (encIf p), .str s] none h (.ret (.tup [.agg (encOT (declF p s)), .bool (declF p s).isSome])) none h := by
 refine SCall.pure0 rfl ?_ (by exact ⟨ok.ins, trivial, trivial⟩) (by exact ⟨declF_in ok s, trivial, trivial⟩) h
 refine SCall.listed (fn := Go.Proofs.Tryz.f21) (by kernel_rfl) res21 (by kernel_rfl) (by kernel_rfl) (Nat.le_refl _) rfl (trivial) (by exact ⟨declF_in ok s, trivial, trivial⟩) ?_
 unfold rc21
 have ix := indexF_spec p.ts ok.2.2 s ok.2.1
 obtain ⟨f1, f2⟩ := fnd_fd (p := fun d : TDx => decide (d.nm = s)) p.ts 0
 refine WR.seq (WR.reg (WQ.runS [3] 1000 _ _ _ _ rfl (WQ.nilS ?_)))
 refine WR.seq (WR.reg (WQ.runS [] 3 _ _ _ _ rfl ?_))
 refine WQ.callH rfl rfl rfl rfl rfl (ix.relc _) .base rfl (WQ.runS [] 1000 _ _ _ _ rfl (WQ.nilS ?_))
 cases hk : fndF (fun d : TDx => decide (d.nm = s)) p.ts 0 with
 | none =>
  rw [show declF p s = none from f1 hk]
  repeat (first | refine WR.seq ?_ | refine WR.block ?_ | refine WR.scope ?_ | refine WR.skip ?_ | refine WR.exit ?_ | refine WR.condT rfl ?_ | refine WR.condF rfl ?_ | refine WR.reg (WQ.runS [] 1000 _ _ _ _ rfl ?_) | refine WQ.nilS ?_ | refine WR.dreg hmix (DW.runS [] 1000 _ _ _ _ _ _ rfl ?_))
  exact WR.ret ⟨rfl, rfl, ⟨_, rfl, by repeat (first | exact VLe.refl _ | exact VLe.unk _ _ | refine VLe.tup ?_ | refine VLe.agg ?_ | exact VLL.nil | refine VLL.cons ?_ ?_)⟩, fun b hb => by
   show none = og (nmOl s) b
   have hb : b < 1000 := hb
   simp only [nmOl, og_cons]
   rw [if_neg (by omega)]; rfl⟩
 | some k =>
  obtain ⟨e1, _, e3⟩ := f2 k hk
  have hd : declF p s = fdF (fun d : TDx => decide (d.nm = s)) p.ts := rfl
  rw [← hd] at e1 e3
  cases hq : declF p s with
  | none => rw [hq] at e3; cases e3
  | some d =>
   rw [hq] at e1
   have g0 : (p.ts.map encTD)[k]? = some (encTD d) := by rw [List.getElem?_map]; rw [Nat.sub_zero] at e1; rw [e1]; rfl
   refine WR.seq (WR.seq (WR.reg (WQ.runS [] 2 _ _ _ _ rfl ?_)))
   rw [show decide (fndV (some k) < 0) = false from decide_eq_false (by show ¬ (k : Int) < 0; omega)]
   refine WQ.nilS (WR.condF rfl (WR.skip ?_))
   refine WR.seq (WR.reg (WQ.runS [] 3 _ _ _ _ rfl ?_))
   refine WQ.lightS rfl rfl rfl (ia_at rfl rfl g0 rfl) rfl (WQ.runS [] 1000 _ _ _ _ rfl (WQ.nilS ?_))
   exact WR.ret ⟨rfl, rfl, ⟨_, rfl, by repeat (first | exact VLe.refl _ | exact VLe.unk _ _ | refine VLe.tup ?_ | refine VLe.agg ?_ | exact VLL.nil | refine VLL.cons ?_ ?_)⟩, fun b hb => by
    show none = og (nmOl s) b
    have hb : b < 1000 := hb
    simp only [nmOl, og_cons]
    rw [if_neg (by omega)]; rfl⟩
end Go.VM
