/- laid for this seat: VsSig3 -/
import Derived.Test.YthacfmmgcbjagaaGreatDoorVsSig2
/- What a type of a text means: packages by their names. -/
set_option maxRecDepth 100000
set_option linter.unusedVariables false
set_option linter.unusedSimpArgs false
namespace Go.VM
open Go.RowKit
def encOI : Option IFx → List V
 | some d => encIf d
 | none => encIf zIf
def hadF (s : SCx) (nm : List Nat) : Option IFx := fdF (fun p => decide (p.pkg = nm)) (s.w.drop 1)
theorem hadF_ok {s : SCx} (ok : okSc s) (nm : List Nat) {p : IFx} (h : hadF s nm = some p) : okIf p := ok.2.2.2.2.2 p (List.mem_of_mem_drop (fdF_mem h).1)
theorem zIf_ok : okIf zIf := ⟨trivial, Nat.zero_le _, fun d h => nomatch h⟩
theorem hadF_in {D : Nat → Prop} {s : SCx} (ok : okSc s) (nm : List Nat) : Ins D (encOI (hadF s nm)) := by
 cases h : hadF s nm with
 | none => exact zIf_ok.ins
 | some d => exact (hadF_ok ok nm h).ins
def zIc : List V := [.str [], .lst [] (.ex 0), .lst [] (.ex 0)]
def zTc : List V := [.str [], .bool false, .lst [] (.ex 0), .lst [] (.ex 0)]
def pkTm (s : SCx) (nm : List Nat) (i : Nat) : TM := [(1, .v (.str nm)), (2, .v (.int .i64 1)), (6, .l 6 0), (11, .v (.lst (s.w.map encIf) .unk)), (12, .v (.int .i64 (s.w.map encIf).length)), (13, .v (.int .i64 i))]
theorem pk_loop {QN : S → Prop} {QX : X → S → Prop} (s : SCx) (ok : okSc s) (nm : List Nat) (r : Option IFx)
  (h0 : r = none → ∀ tm, tg tm 6 = some (.l 6 0) → QX (.exit 0) (SL.toS ⟨tm, [], none, 1000, [], [(6, zIc)]⟩)) (h1 : ∀ p, r = some p → ∀ st, RetS Go.Proofs.Tryz.prog Go.Proofs.Tryz.f20 (.tup [.agg (encIf p), .bool true]) 1000 [] st → QX .ret st) : ∀ (m i : Nat), i + m = s.w.length → r = fdF (fun p => decide (p.pkg = nm)) (s.w.drop (max i 1)) →
  WLr Go.Proofs.Tryz.prog [] ⟨Go.Proofs.Tryz.f20.ntmps, none, 20⟩ rc20_L1 (SL.toS ⟨pkTm s nm i, [], none, 1000, [], [(6, zIc)]⟩) QN QX := by
 have hll : (s.w.map encIf).length = s.w.length := List.length_map ..
 have hl : s.w.length ≤ mxl := ok.2.2.1
 intro m
 induction m with
 | zero =>
  intro i hi hr
  unfold rc20_L1
  refine WLr.of ?_
  repeat (first | refine WR.seq ?_ | refine WR.block ?_ | refine WR.scope ?_ | refine WR.skip ?_ | refine WR.exit ?_ | refine WR.condT rfl ?_ | refine WR.condF rfl ?_ | refine WR.reg (WQ.runS [] 1000 _ _ _ _ rfl ?_) | refine WQ.nilS ?_ | refine WR.dreg hmix (DW.runS [] 1000 _ _ _ _ _ _ rfl ?_))
  refine WR.cond rfl (fun c => ?_) (fun c => ?_)
  ·have := of_decide_eq_true c; omega
  refine WR.exit (h0 ?_ _ rfl)
  rw [hr, List.drop_eq_nil_iff.2 (by omega)]; rfl
 | succ m ih =>
  intro i hi hr
  obtain ⟨x, hx, hd⟩ := drop_get (l := s.w) (i := i) (by omega)
  have g0 : (s.w.map encIf)[i]? = some (encIf x) := by rw [List.getElem?_map, hx]; rfl
  unfold rc20_L1
  refine WLr.of ?_
  repeat (first | refine WR.seq ?_ | refine WR.block ?_ | refine WR.scope ?_ | refine WR.skip ?_ | refine WR.exit ?_ | refine WR.condT rfl ?_ | refine WR.condF rfl ?_ | refine WR.reg (WQ.runS [] 1000 _ _ _ _ rfl ?_) | refine WQ.nilS ?_ | refine WR.dreg hmix (DW.runS [] 1000 _ _ _ _ _ _ rfl ?_))
  refine WR.cond rfl (fun c => ?_) (fun c => ?_)
  rotate_left
  ·have := of_decide_eq_false c; omega
  have fin : ∀ (tm : TM) (lc : LM), TellT tm [(6, zIc)] (pkTm s nm i) → lg lc 6 = some zIc → r = fdF (fun p => decide (p.pkg = nm)) (s.w.drop (i + 1)) → WR Go.Proofs.Tryz.prog [] ⟨Go.Proofs.Tryz.f20.ntmps, none, 20⟩ rc20_J1 (SL.toS ⟨tm, [], none, 1000, [], lc⟩) (fun s1 => WIr Go.Proofs.Tryz.prog [] ⟨Go.Proofs.Tryz.f20.ntmps, none, 20⟩ rc20_L1 s1 QN QX) QX := by
   intro tm lc ht hl6 hr2
   refine WR.weak (s := SL.toS ⟨pkTm s nm i, [], none, 1000, [], [(6, zIc)]⟩) (SW.tellR ht (.cons hl6 (.inl rfl) .nil)) ?_
   unfold rc20_J1
   refine WR.reg (WQ.runS [] 1000 _ _ _ _ rfl (WQ.nilS ?_))
   rw [nextI (by unfold mxl at hl ⊢; omega)]
   refine WIr.again (WLr.weak ?_ (ih (i + 1) (by omega) (by rw [hr2, Nat.max_eq_left (by omega)])))
   refine SW.tellR ?_ ?_
   ·repeat (first | exact .nil | refine .cons rfl (.v (VLe.refl _)) ?_ | refine .cons rfl (.l _ _ rfl) ?_ | refine .cons rfl (.v (VLe.unk _ _)) ?_)
   ·repeat (first | exact .nil | refine .cons rfl (.inl rfl) ?_)
  repeat (first | refine WR.seq ?_ | refine WR.block ?_ | refine WR.scope ?_ | refine WR.skip ?_ | refine WR.exit ?_ | refine WR.condT rfl ?_ | refine WR.condF rfl ?_ | refine WR.reg (WQ.runS [] 1000 _ _ _ _ rfl ?_) | refine WQ.nilS ?_ | refine WR.dreg hmix (DW.runS [] 1000 _ _ _ _ _ _ rfl ?_))
  refine WR.reg (WQ.runS [] 1 _ _ _ _ rfl ?_)
  refine WQ.lightS rfl rfl rfl (ia_at rfl rfl g0 rfl) rfl (WQ.runS [] 1000 _ _ _ _ rfl (WQ.nilS ?_))
  refine WR.seq (WR.reg (WQ.runS [] 3 _ _ _ _ rfl ?_))
  by_cases hi0 : i = 0
  ·rw [show decide ((i : Int) ≥ 1) = false from decide_eq_false (by omega)]
   refine WQ.runS [] 1000 _ _ _ _ rfl (WQ.nilS (WR.condF rfl (WR.skip ?_)))
   refine fin _ _ ?_ rfl (by rw [hr, hi0]; rfl)
   repeat (first | exact .nil | refine .cons rfl (.v (VLe.refl _)) ?_ | refine .cons rfl (.l _ _ rfl) ?_)
  rw [show decide ((i : Int) ≥ 1) = true from decide_eq_true (by omega)]
  refine WQ.runS [] 5 _ _ _ _ rfl ?_
  rw [Nat.max_eq_left (by omega), hd, fdF] at hr
  cases hb : decide (x.pkg = nm)
  ·rw [hb] at hr
   refine WQ.runS [] 1000 _ _ _ _ rfl (WQ.nilS (WR.condF rfl (WR.skip ?_)))
   refine fin _ _ ?_ rfl hr
   repeat (first | exact .nil | refine .cons rfl (.v (VLe.refl _)) ?_ | refine .cons rfl (.l _ _ rfl) ?_)
  ·rw [hb] at hr
   refine WQ.runS [] 1000 _ _ _ _ rfl (WQ.nilS (WR.condT rfl ?_))
   refine WR.seq (WR.reg (WQ.runS [] 1000 _ _ _ _ rfl (WQ.nilS ?_)))
   exact WR.ret (h1 x hr _ ⟨rfl, rfl, ⟨_, rfl, VLe.refl _⟩, fun _ _ => rfl⟩)
theorem pkg_spec (s : SCx) (ok : okSc s) (nm : List Nat) (h : H) : SCall Go.Proofs.Tryz.prog [] 20 [.agg (encSc s), .str nm, .int .i64 1] none h (.ret (.tup [.agg (encOI (hadF s nm)), .bool (hadF s nm).isSome])) none h := by
 refine SCall.pure0 rfl ?_ (by exact ⟨ok.ins, trivial, trivial, trivial⟩) (by exact ⟨hadF_in ok nm, trivial, trivial⟩) h
 refine SCall.listed (fn := Go.Proofs.Tryz.f20) (by kernel_rfl) res20 (by kernel_rfl) (by kernel_rfl) (Nat.le_refl _) rfl (trivial) (by exact ⟨hadF_in ok nm, trivial, trivial⟩) ?_
 unfold rc20
 repeat (first | refine WR.seq ?_ | refine WR.block ?_ | refine WR.scope ?_ | refine WR.skip ?_ | refine WR.exit ?_ | refine WR.condT rfl ?_ | refine WR.condF rfl ?_ | refine WR.reg (WQ.runS [] 1000 _ _ _ _ rfl ?_) | refine WQ.nilS ?_ | refine WR.dreg hmix (DW.runS [] 1000 _ _ _ _ _ _ rfl ?_))
 refine WR.loop (WLr.weak (s := SL.toS ⟨pkTm s nm 0, [], none, 1000, [], [(6, zIc)]⟩) ?_ (pk_loop s ok nm (hadF s nm) (fun hr tm h6 => ?_) (fun k hr st q => ?_) s.w.length 0 (by omega) rfl))
 ·refine SW.tellR ?_ ?_
  ·repeat (first | exact .nil | refine .cons rfl (.v (VLe.refl _)) ?_ | refine .cons rfl (.l _ _ rfl) ?_ | refine .cons rfl (.v (VLe.unk _ _)) ?_)
  ·repeat (first | exact .nil | refine .cons rfl (.inl rfl) ?_)
 ·rw [hr]
  refine WR.weak (s := SL.toS ⟨[(6, .l 6 0)], [], none, 1000, [], [(6, zIc)]⟩) (SW.tellR (.cons h6 (.l _ _ rfl) .nil) (.cons rfl (.inl rfl) .nil)) ?_
  unfold rc20_J2
  repeat (first | refine WR.seq ?_ | refine WR.block ?_ | refine WR.scope ?_ | refine WR.skip ?_ | refine WR.exit ?_ | refine WR.condT rfl ?_ | refine WR.condF rfl ?_ | refine WR.reg (WQ.runS [] 1000 _ _ _ _ rfl ?_) | refine WQ.nilS ?_ | refine WR.dreg hmix (DW.runS [] 1000 _ _ _ _ _ _ rfl ?_))
  exact WR.ret ⟨rfl, rfl, ⟨_, rfl, by repeat (first | exact VLe.refl _ | exact VLe.unk _ _ | refine VLe.tup ?_ | refine VLe.agg ?_ | exact VLL.nil | refine VLL.cons ?_ ?_)⟩, fun b hb => rfl⟩
 ·rw [hr]; exact q
def hdTm (s : SCx) (nm : List Nat) (i : Nat) : TM := [(1, .v (.str nm)), (2, .l 2 0), (4, .l 4 0), (6, .v (.int .i64 i))]
def hdLc (s : SCx) : LM := [(2, encSc s), (4, zIc)]
theorem hd_loop {QN : S → Prop} {QX : X → S → Prop} (s : SCx) (ok : okSc s) (nm : List Nat) (r : Option IFx)
  (h0 : r = none → ∀ tm, tg tm 4 = some (.l 4 0) → QX (.exit 0) (SL.toS ⟨tm, [], none, 1000, [], hdLc s⟩)) (h1 : ∀ p, r = some p → ∀ st, RetS Go.Proofs.Tryz.prog Go.Proofs.Tryz.f35 (.tup [.agg (encIf p), .bool true]) 1000 [] st → QX .ret st) : ∀ (m i : Nat), s.w.length ≤ i + m → i ≤ s.w.length ∨ i = 1 → r = fdF (fun p => decide (p.pkg = nm)) (s.w.drop i) →
  WLr Go.Proofs.Tryz.prog [] ⟨Go.Proofs.Tryz.f35.ntmps, none, 35⟩ rc35_L1 (SL.toS ⟨hdTm s nm i, [], none, 1000, [], hdLc s⟩) QN QX := by
 have hll : (s.w.map encIf).length = s.w.length := List.length_map ..
 have hl : s.w.length ≤ mxl := ok.2.2.1
 intro m
 induction m with
 | zero =>
  intro i hi hi2 hr
  unfold rc35_L1
  refine WLr.of ?_
  repeat (first | refine WR.seq ?_ | refine WR.block ?_ | refine WR.scope ?_ | refine WR.skip ?_ | refine WR.exit ?_ | refine WR.condT rfl ?_ | refine WR.condF rfl ?_ | refine WR.reg (WQ.runS [] 1000 _ _ _ _ rfl ?_) | refine WQ.nilS ?_ | refine WR.dreg hmix (DW.runS [] 1000 _ _ _ _ _ _ rfl ?_))
  refine WR.cond rfl (fun c => ?_) (fun c => ?_)
  ·have := of_decide_eq_true c; omega
  refine WR.exit (h0 ?_ _ rfl)
  rw [hr, List.drop_eq_nil_iff.2 (by omega)]; rfl
 | succ m ih =>
  intro i hi hi2 hr
  unfold rc35_L1
  refine WLr.of ?_
  repeat (first | refine WR.seq ?_ | refine WR.block ?_ | refine WR.scope ?_ | refine WR.skip ?_ | refine WR.exit ?_ | refine WR.condT rfl ?_ | refine WR.condF rfl ?_ | refine WR.reg (WQ.runS [] 1000 _ _ _ _ rfl ?_) | refine WQ.nilS ?_ | refine WR.dreg hmix (DW.runS [] 1000 _ _ _ _ _ _ rfl ?_))
  refine WR.cond rfl (fun c => ?_) (fun c => ?_)
  rotate_left
  ·have := of_decide_eq_false c
   refine WR.exit (h0 ?_ _ rfl)
   rw [hr, List.drop_eq_nil_iff.2 (by omega)]; rfl
  have c := of_decide_eq_true c
  obtain ⟨x, hx, hd⟩ := drop_get (l := s.w) (i := i) (by omega)
  have g0 : (s.w.map encIf)[i]? = some (encIf x) := by rw [List.getElem?_map, hx]; rfl
  repeat (first | refine WR.seq ?_ | refine WR.block ?_ | refine WR.scope ?_ | refine WR.skip ?_ | refine WR.exit ?_ | refine WR.condT rfl ?_ | refine WR.condF rfl ?_ | refine WR.reg (WQ.runS [] 1000 _ _ _ _ rfl ?_) | refine WQ.nilS ?_ | refine WR.dreg hmix (DW.runS [] 1000 _ _ _ _ _ _ rfl ?_))
  refine WR.reg (WQ.runS [] 3 _ _ _ _ rfl ?_)
  refine WQ.lightS rfl rfl rfl (ia_at rfl rfl g0 rfl) rfl (WQ.runS [] 4 _ _ _ _ rfl ?_)
  rw [hd, fdF] at hr
  cases hb : decide (x.pkg = nm)
  ·rw [hb] at hr
   refine WQ.nilS (WR.condF rfl (WR.skip ?_))
   unfold rc35_J1
   refine WR.reg (WQ.runS [] 1000 _ _ _ _ rfl (WQ.nilS ?_))
   rw [nextI (by unfold mxl at hl ⊢; omega)]
   refine WIr.again (WLr.weak ?_ (ih (i + 1) (by omega) (by omega) hr))
   refine SW.tellR ?_ ?_
   ·repeat (first | exact .nil | refine .cons rfl (.v (VLe.refl _)) ?_ | refine .cons rfl (.l _ _ rfl) ?_ | refine .cons rfl (.v (VLe.unk _ _)) ?_)
   ·repeat (first | exact .nil | refine .cons rfl (.inl rfl) ?_)
  ·rw [hb] at hr
   refine WQ.nilS (WR.condT rfl ?_)
   refine WR.seq (WR.reg (WQ.runS [] 3 _ _ _ _ rfl ?_))
   refine WQ.lightS rfl rfl rfl (ia_at rfl rfl g0 rfl) rfl (WQ.runS [] 1000 _ _ _ _ rfl (WQ.nilS ?_))
   exact WR.ret (h1 x hr _ ⟨rfl, rfl, ⟨_, rfl, VLe.refl _⟩, fun _ _ => rfl⟩)
theorem had_spec (s : SCx) (ok : okSc s) (nm : List Nat) (h : H) : SCall Go.Proofs.Tryz.prog [] 35 [.agg (encSc s), .str nm] none h (.ret (.tup [.agg (encOI (hadF s nm)), .bool (hadF s nm).isSome])) none h := by
 refine SCall.pure0 rfl ?_ (by exact ⟨ok.ins, trivial, trivial⟩) (by exact ⟨hadF_in ok nm, trivial, trivial⟩) h
 refine SCall.listed (fn := Go.Proofs.Tryz.f35) (by kernel_rfl) res35 (by kernel_rfl) (by kernel_rfl) (Nat.le_refl _) rfl (trivial) (by exact ⟨hadF_in ok nm, trivial, trivial⟩) ?_
 unfold rc35
 repeat (first | refine WR.seq ?_ | refine WR.block ?_ | refine WR.scope ?_ | refine WR.skip ?_ | refine WR.exit ?_ | refine WR.condT rfl ?_ | refine WR.condF rfl ?_ | refine WR.reg (WQ.runS [] 1000 _ _ _ _ rfl ?_) | refine WQ.nilS ?_ | refine WR.dreg hmix (DW.runS [] 1000 _ _ _ _ _ _ rfl ?_))
 refine WR.loop (WLr.weak (s := SL.toS ⟨hdTm s nm 1, [], none, 1000, [], hdLc s⟩) ?_ (hd_loop s ok nm (hadF s nm) (fun hr tm h6 => ?_) (fun k hr st q => ?_) s.w.length 1 (by omega) (.inr rfl) rfl))
 ·refine SW.tellR ?_ ?_
  ·repeat (first | exact .nil | refine .cons rfl (.v (VLe.refl _)) ?_ | refine .cons rfl (.l _ _ rfl) ?_ | refine .cons rfl (.v (VLe.unk _ _)) ?_)
  ·repeat (first | exact .nil | refine .cons rfl (.inl rfl) ?_)
 ·rw [hr]
  refine WR.weak (s := SL.toS ⟨[(4, .l 4 0)], [], none, 1000, [], [(4, zIc)]⟩) (SW.tellR (.cons h6 (.l _ _ rfl) .nil) (.cons rfl (.inl rfl) .nil)) ?_
  unfold rc35_J2
  repeat (first | refine WR.seq ?_ | refine WR.block ?_ | refine WR.scope ?_ | refine WR.skip ?_ | refine WR.exit ?_ | refine WR.condT rfl ?_ | refine WR.condF rfl ?_ | refine WR.reg (WQ.runS [] 1000 _ _ _ _ rfl ?_) | refine WQ.nilS ?_ | refine WR.dreg hmix (DW.runS [] 1000 _ _ _ _ _ _ rfl ?_))
  exact WR.ret ⟨rfl, rfl, ⟨_, rfl, by repeat (first | exact VLe.refl _ | exact VLe.unk _ _ | refine VLe.tup ?_ | refine VLe.agg ?_ | exact VLL.nil | refine VLL.cons ?_ ?_)⟩, fun b hb => rfl⟩
 ·rw [hr]; exact q
def ownF (s : SCx) : IFx := match s.w with
 | [] => zIf
 | p :: _ => p
theorem ownF_ok {s : SCx} (ok : okSc s) : okIf (ownF s) := by
 unfold ownF
 split
 ·exact zIf_ok
 ·rename_i p r e; exact ok.2.2.2.2.2 p (by rw [e]; exact List.mem_cons_self ..)
theorem own_spec (s : SCx) (ok : okSc s) (h : H) : SCall Go.Proofs.Tryz.prog [] 32 [.agg (encSc s)] none h (.ret (.agg (encIf (ownF s)))) none h := by
 refine SCall.pure0 rfl ?_ (by exact ⟨ok.ins, trivial⟩) (by exact (ownF_ok ok).ins) h
 refine SCall.listed (fn := Go.Proofs.Tryz.f32) (by kernel_rfl) res32 (by kernel_rfl) (by kernel_rfl) (Nat.le_refl _) rfl (trivial) (by exact (ownF_ok ok).ins) ?_
 unfold rc32
 obtain ⟨w, im, nm, bo, va⟩ := s
 cases w with
 | nil =>
  repeat (first | refine WR.seq ?_ | refine WR.block ?_ | refine WR.scope ?_ | refine WR.skip ?_ | refine WR.exit ?_ | refine WR.condT rfl ?_ | refine WR.condF rfl ?_ | refine WR.reg (WQ.runS [] 1000 _ _ _ _ rfl ?_) | refine WQ.nilS ?_ | refine WR.dreg hmix (DW.runS [] 1000 _ _ _ _ _ _ rfl ?_))
  exact WR.ret ⟨rfl, rfl, ⟨_, rfl, by repeat (first | exact VLe.refl _ | exact VLe.unk _ _ | refine VLe.tup ?_ | refine VLe.agg ?_ | exact VLL.nil | refine VLL.cons ?_ ?_)⟩, fun b hb => rfl⟩
 | cons p r =>
  repeat (first | refine WR.seq ?_ | refine WR.block ?_ | refine WR.scope ?_ | refine WR.skip ?_ | refine WR.exit ?_ | refine WR.condT rfl ?_ | refine WR.condF rfl ?_ | refine WR.reg (WQ.runS [] 1000 _ _ _ _ rfl ?_) | refine WQ.nilS ?_ | refine WR.dreg hmix (DW.runS [] 1000 _ _ _ _ _ _ rfl ?_))
  exact WR.ret ⟨rfl, rfl, ⟨_, rfl, VLe.refl _⟩, fun b hb => rfl⟩
def deTm (p : IFx) (nm : List Nat) (i : Nat) : TM := [(1, .v (.str nm)), (2, .l 2 0), (4, .l 4 0), (6, .v (.int .i64 i))]
def deLc (p : IFx) : LM := [(2, encIf p), (4, zTc)]
theorem de_loop {QN : S → Prop} {QX : X → S → Prop} (s : IFx) (ok : okIf s) (nm : List Nat) (r : Option TDx)
  (h0 : r = none → ∀ tm, tg tm 4 = some (.l 4 0) → QX (.exit 0) (SL.toS ⟨tm, [], none, 1000, [], deLc s⟩)) (h1 : ∀ p, r = some p → ∀ st, RetS Go.Proofs.Tryz.prog Go.Proofs.Tryz.f33 (.tup [.agg (encTD p), .bool true]) 1000 [] st → QX .ret st) : ∀ (m i : Nat), i + m = s.ts.length → r = fdF (fun p => decide (p.nm = nm)) (s.ts.drop i) →
  WLr Go.Proofs.Tryz.prog [] ⟨Go.Proofs.Tryz.f33.ntmps, none, 33⟩ rc33_L1 (SL.toS ⟨deTm s nm i, [], none, 1000, [], deLc s⟩) QN QX := by
 have hll : (s.ts.map encTD).length = s.ts.length := List.length_map ..
 have hl : s.ts.length ≤ mxl := ok.2.1
 intro m
 induction m with
 | zero =>
  intro i hi hr
  unfold rc33_L1
  refine WLr.of ?_
  repeat (first | refine WR.seq ?_ | refine WR.block ?_ | refine WR.scope ?_ | refine WR.skip ?_ | refine WR.exit ?_ | refine WR.condT rfl ?_ | refine WR.condF rfl ?_ | refine WR.reg (WQ.runS [] 1000 _ _ _ _ rfl ?_) | refine WQ.nilS ?_ | refine WR.dreg hmix (DW.runS [] 1000 _ _ _ _ _ _ rfl ?_))
  refine WR.cond rfl (fun c => ?_) (fun c => ?_)
  ·have := of_decide_eq_true c; omega
  refine WR.exit (h0 ?_ _ rfl)
  rw [hr, List.drop_eq_nil_iff.2 (by omega)]; rfl
 | succ m ih =>
  intro i hi hr
  unfold rc33_L1
  refine WLr.of ?_
  repeat (first | refine WR.seq ?_ | refine WR.block ?_ | refine WR.scope ?_ | refine WR.skip ?_ | refine WR.exit ?_ | refine WR.condT rfl ?_ | refine WR.condF rfl ?_ | refine WR.reg (WQ.runS [] 1000 _ _ _ _ rfl ?_) | refine WQ.nilS ?_ | refine WR.dreg hmix (DW.runS [] 1000 _ _ _ _ _ _ rfl ?_))
  refine WR.cond rfl (fun c => ?_) (fun c => ?_)
  rotate_left
  ·have := of_decide_eq_false c; omega
  have c := of_decide_eq_true c
  obtain ⟨x, hx, hd⟩ := drop_get (l := s.ts) (i := i) (by omega)
  have g0 : (s.ts.map encTD)[i]? = some (encTD x) := by rw [List.getElem?_map, hx]; rfl
  repeat (first | refine WR.seq ?_ | refine WR.block ?_ | refine WR.scope ?_ | refine WR.skip ?_ | refine WR.exit ?_ | refine WR.condT rfl ?_ | refine WR.condF rfl ?_ | refine WR.reg (WQ.runS [] 1000 _ _ _ _ rfl ?_) | refine WQ.nilS ?_ | refine WR.dreg hmix (DW.runS [] 1000 _ _ _ _ _ _ rfl ?_))
  refine WR.reg (WQ.runS [] 3 _ _ _ _ rfl ?_)
  refine WQ.lightS rfl rfl rfl (ia_at rfl rfl g0 rfl) rfl (WQ.runS [] 4 _ _ _ _ rfl ?_)
  rw [hd, fdF] at hr
  cases hb : decide (x.nm = nm)
  ·rw [hb] at hr
   refine WQ.nilS (WR.condF rfl (WR.skip ?_))
   unfold rc33_J1
   refine WR.reg (WQ.runS [] 1000 _ _ _ _ rfl (WQ.nilS ?_))
   rw [nextI (by unfold mxl at hl ⊢; omega)]
   refine WIr.again (WLr.weak ?_ (ih (i + 1) (by omega) hr))
   refine SW.tellR ?_ ?_
   ·repeat (first | exact .nil | refine .cons rfl (.v (VLe.refl _)) ?_ | refine .cons rfl (.l _ _ rfl) ?_ | refine .cons rfl (.v (VLe.unk _ _)) ?_)
   ·repeat (first | exact .nil | refine .cons rfl (.inl rfl) ?_)
  ·rw [hb] at hr
   refine WQ.nilS (WR.condT rfl ?_)
   refine WR.seq (WR.reg (WQ.runS [] 3 _ _ _ _ rfl ?_))
   refine WQ.lightS rfl rfl rfl (ia_at rfl rfl g0 rfl) rfl (WQ.runS [] 1000 _ _ _ _ rfl (WQ.nilS ?_))
   exact WR.ret (h1 x hr _ ⟨rfl, rfl, ⟨_, rfl, VLe.refl _⟩, fun _ _ => rfl⟩)
theorem declR_spec (p : IFx) (ok : okIf p) (nm : List Nat) (h : H) : SCall Go.Proofs.Tryz.prog [] 33 [.agg (encIf p), .str nm] none h (.ret (.tup [.agg (encOT (declF p nm)), .bool (declF p nm).isSome])) none h := by
 refine SCall.pure0 rfl ?_ (by exact ⟨ok.ins, trivial, trivial⟩) (by exact ⟨declF_in ok nm, trivial, trivial⟩) h
 refine SCall.listed (fn := Go.Proofs.Tryz.f33) (by kernel_rfl) res33 (by kernel_rfl) (by kernel_rfl) (Nat.le_refl _) rfl (trivial) (by exact ⟨declF_in ok nm, trivial, trivial⟩) ?_
 unfold rc33
 repeat (first | refine WR.seq ?_ | refine WR.block ?_ | refine WR.scope ?_ | refine WR.skip ?_ | refine WR.exit ?_ | refine WR.condT rfl ?_ | refine WR.condF rfl ?_ | refine WR.reg (WQ.runS [] 1000 _ _ _ _ rfl ?_) | refine WQ.nilS ?_ | refine WR.dreg hmix (DW.runS [] 1000 _ _ _ _ _ _ rfl ?_))
 refine WR.loop (WLr.weak (s := SL.toS ⟨deTm p nm 0, [], none, 1000, [], deLc p⟩) ?_ (de_loop p ok nm (declF p nm) (fun hr tm h6 => ?_) (fun k hr st q => ?_) p.ts.length 0 (by omega) rfl))
 ·refine SW.tellR ?_ ?_
  ·repeat (first | exact .nil | refine .cons rfl (.v (VLe.refl _)) ?_ | refine .cons rfl (.l _ _ rfl) ?_ | refine .cons rfl (.v (VLe.unk _ _)) ?_)
  ·repeat (first | exact .nil | refine .cons rfl (.inl rfl) ?_)
 ·rw [hr]
  refine WR.weak (s := SL.toS ⟨[(4, .l 4 0)], [], none, 1000, [], [(4, zTc)]⟩) (SW.tellR (.cons h6 (.l _ _ rfl) .nil) (.cons rfl (.inl rfl) .nil)) ?_
  unfold rc33_J2
  repeat (first | refine WR.seq ?_ | refine WR.block ?_ | refine WR.scope ?_ | refine WR.skip ?_ | refine WR.exit ?_ | refine WR.condT rfl ?_ | refine WR.condF rfl ?_ | refine WR.reg (WQ.runS [] 1000 _ _ _ _ rfl ?_) | refine WQ.nilS ?_ | refine WR.dreg hmix (DW.runS [] 1000 _ _ _ _ _ _ rfl ?_))
  exact WR.ret ⟨rfl, rfl, ⟨_, rfl, by repeat (first | exact VLe.refl _ | exact VLe.unk _ _ | refine VLe.tup ?_ | refine VLe.agg ?_ | exact VLL.nil | refine VLL.cons ?_ ?_)⟩, fun b hb => rfl⟩
 ·rw [hr]; exact q
end Go.VM
