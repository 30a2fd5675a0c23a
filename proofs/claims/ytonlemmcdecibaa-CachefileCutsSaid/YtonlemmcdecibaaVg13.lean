/- laid for this seat: VcOpen VcOpen2 VcOpen3 VcOpen4 -/
import Derived.Test.YtonlemmcdecibaaVg12
section
/- The cache: it is opened: the loop. -/
set_option maxRecDepth 100000
set_option linter.unusedVariables false
set_option linter.unusedSimpArgs false
namespace Go.VM
open Go.RowKit
def PO (d : Dk) (r : Nat) (L : List EZ) : OL := [(1000, .cells false (encD d 1001)), (1001, .tok d.ws.length), (r, rowO L)]
def OO (d : Dk) (C : CSt) (c r : Nat) : OL := PO d r C.L ++ [(c, .cells false (encC 1000 r C))]
theorem PO_lt {d : Dk} {r : Nat} {L : List EZ} {N : Nat} (h0 : 1002 ≤ r) (h : r < N) : keysLt (PO d r L) N := by
 intro e he
 simp only [PO, List.mem_cons, List.not_mem_nil, or_false] at he
 rcases he with rfl | rfl | rfl <;> simp only <;> omega
theorem OO_c {d : Dk} {C : CSt} {c r : Nat} (h0 : 1002 ≤ r) (h : r < c) : og (OO d C c r) c = some (.cells false (encC 1000 r C)) := rowAt _ (PO_lt h0 h)
theorem OO_r {d : Dk} {C : CSt} {c r : Nat} (h0 : 1002 ≤ r) : og (OO d C c r) r = some (rowO C.L) := by
 simp only [OO, PO, List.cons_append, List.nil_append, og_cons]
 rw [if_neg (by omega), if_neg (by omega), if_pos trivial]
def maxL : List EZ → Int → Int
 | [], m => m
 | e :: l, m => maxL l (if e.last > m then e.last else m)
def opTm (c r : Nat) (L : List EZ) (b : List Nat) (good j : Nat) : TM := [(10, .v (.str b)), (12, .v (.int .i64 good)), (13, .v (.ptr c 0)), (58, .v (clV r L)), (59, .v (.int .i64 L.length)), (60, .v (.int .i64 j))]
theorem open_loop {QN : S → Prop} {QX : X → S → Prop} (d : Dk) (C : CSt) (c r : Nat) (b : List Nat) (good : Nat) (h0 : 1009 ≤ r) (hrc : r < c) (hne : C.L ≠ []) (hn : C.L.length ≤ 100000000) : ∀ (m j : Nat) (la : Int), j + m = C.L.length →
  (∀ tm lc, tg tm 10 = some (.v (.str b)) → tg tm 12 = some (.v (.int .i64 good)) → tg tm 13 = some (.v (.ptr c 0)) → QX (.exit 0) (SL.toS ⟨tm, [], none, c + 1, OO d { C with last := maxL (C.L.drop j) la } c r, lc⟩)) →
  WLr Go.Proofs.Try.prog [] ⟨Go.Proofs.Try.f18.ntmps, none, 18⟩ rc18_L1 (SL.toS ⟨opTm c r C.L b good j, [], none, c + 1, OO d { C with last := la } c r, []⟩) QN QX := by
 intro m
 induction m with
 | zero =>
  intro j la hj hx
  unfold rc18_L1
  refine WLr.of ?_
  refine WR.seq (WR.reg (WQ.runS [] 1000 _ _ _ _ rfl (WQ.nilS ?_)))
  rw [show decide ((j : Int) < (C.L.length : Int)) = false from decide_eq_false (by omega)]
  refine WR.seq (WR.condF rfl (WR.exit ?_))
  rw [List.drop_eq_nil_iff.2 (by omega)] at hx
  exact hx _ _ rfl rfl rfl
 | succ m ih =>
  intro j la hj hx
  have hlt : j < C.L.length := by omega
  obtain ⟨e, he⟩ : ∃ e, C.L[j]? = some e := ⟨_, List.getElem?_eq_getElem hlt⟩
  have hrow : og (OO d { C with last := la } c r) r = some (.cells true (flatZ C.L)) := by rw [OO_r (by omega)]; show some (rowO C.L) = _; rw [rowO_some hne]
  have hcl : clV r C.L = .sl r 0 C.L.length (.op 4) := clV_some hne
  unfold rc18_L1
  refine WLr.of ?_
  refine WR.seq (WR.reg (WQ.runS [] 1000 _ _ _ _ rfl (WQ.nilS ?_)))
  rw [show decide ((j : Int) < (C.L.length : Int)) = true from decide_eq_true (by omega)]
  refine WR.seq (WR.condT rfl (WR.skip ?_))
  unfold opTm
  rw [hcl]
  refine WR.seq (WR.block (WR.seq (WR.reg ?_)))
  refine WQ.lightS rfl rfl rfl (rowIa rfl rfl hlt) rfl ?_
  refine WQ.lightS rfl rfl rfl (atLd4 rfl hrow he) rfl ?_
  refine WQ.runS [] 1000 _ _ _ _ rfl (WQ.nilS ?_)
  refine WR.dreg hmix (DW.runS [] 4 _ _ _ _ _ _ rfl ?_)
  refine DW.lightS rfl (atLd (v := .int .i64 la) rfl (OO_c (by omega) hrc) rfl) rfl ?_
  refine DW.runS [] 5 _ _ _ _ _ _ rfl ?_
  refine DW.stS (by repeat (first | exact .nil | refine PendR.passM rfl ?_ | refine PendR.sameM rfl ?_ | refine PendR.lightM rfl ?_)) rfl rfl (rowSt (p := PO d r C.L) (N := c) (opn := false) (cs := encC 1000 r { C with last := la }) (cs' := encC 1000 r { C with last := if e.last > la then e.last else la }) (PO_lt (by omega) hrc) (by show 1000 ≤ c; omega) rfl rfl rfl (by show 6 < 7; omega) rfl) rfl ?_
  refine DW.runS [] 1000 _ _ _ _ _ _ rfl ?_
  refine DW.finS (by repeat (first | exact .nil | refine PendR.passM rfl ?_ | refine PendR.sameM rfl ?_ | refine PendR.lightM rfl ?_)) ?_
  unfold rc18_J1
  refine WR.reg (WQ.runS [] 1000 _ _ _ _ rfl (WQ.nilS ?_))
  rw [show IntKind.i64.wrap ((j : Int) + 1) = ((j + 1 : Nat) : Int) from by rw [wrap64 (by omega) (by omega)]; rfl]
  have hd : C.L.drop j = e :: C.L.drop (j + 1) := by
   rw [List.drop_eq_getElem_cons hlt]
   congr 1
   rw [List.getElem?_eq_getElem hlt] at he; exact Option.some.inj he
  rw [hd] at hx
  rw [← hcl]
  refine WIr.again (WLr.weak ?_ (ih (j + 1) (if e.last > la then e.last else la) (by omega) hx))
  refine SW.tellR ?_ ?_
  ·repeat (first | exact .nil | refine .cons rfl (.v (VLe.refl _)) ?_ | refine .cons rfl (.l _ _ rfl) ?_ | refine .cons rfl (.v (VLe.unk _ _)) ?_)
  ·repeat (first | exact .nil | refine .cons rfl (.inl rfl) ?_)
end Go.VM
end
section
/- The cache: it is opened: behind the loop. -/
set_option maxRecDepth 100000
set_option linter.unusedVariables false
set_option linter.unusedSimpArgs false
namespace Go.VM
open Go.RowKit
theorem hcq_OO {d d' : Dk} {C C' : CSt} {c r nx rr n : Nat} {lc : LM} (hr : 1002 ≤ r) (hrc : r < c) (hcn : c < nx) (hrr : rr = r ∨ (nx ≤ rr ∧ rr < nx + n)) : hcq ⟨nx, og (OO d C c r), lc⟩ 1000 1001 c r d' C' rr n = ⟨nx + n, og (OO d' C' c rr), lc⟩ := by
 unfold hcq
 congr 1
 funext k
 show (if k = rr then some (rowO C'.L) else if k = c then some (.cells false (encC 1000 rr C')) else if k = 1001 then some (.tok d'.ws.length) else if k = 1000 then some (.cells false (encD d' 1001)) else if k = r ∨ (nx ≤ k ∧ k < nx + n) then none else og (OO d C c r) k) = og (OO d' C' c rr) k
 have hk : ∀ (d : Dk) (C : CSt) (r : Nat), og (OO d C c r) k = if k = 1000 then some (.cells false (encD d 1001)) else if k = 1001 then some (.tok d.ws.length) else if k = r then some (rowO C.L) else if k = c then some (.cells false (encC 1000 r C)) else none := fun d C r => by
  simp only [OO, PO, List.cons_append, List.nil_append, og_cons]; rfl
 rw [hk, hk]
 by_cases k0 : k = 1000
 ·subst k0; rw [if_neg (by omega), if_neg (by omega)]; rfl
 by_cases k1 : k = 1001
 ·subst k1; rw [if_neg (by omega), if_neg (by omega)]; rfl
 rw [if_neg k0, if_neg k1, if_neg k0, if_neg k1, if_neg k0, if_neg k1]
 by_cases k3 : k = rr
 ·rw [if_pos k3, if_pos k3]
 ·rw [if_neg k3, if_neg k3]
  by_cases k2 : k = c
  ·rw [if_pos k2, if_pos k2]
  ·rw [if_neg k2, if_neg k2, if_neg k2]
   by_cases k4 : k = r
   ·rw [if_pos (.inl k4)]
   ·rw [if_neg k4]
    by_cases k5 : nx ≤ k ∧ k < nx + n
    ·rw [if_pos (.inr k5)]
    ·rw [if_neg (fun e => by rcases e with e | e; exact k4 e; exact k5 e)]
theorem comp_OO {d : Dk} {C : CSt} {c r : Nat} {lc : LM} (cf : CompFit d C) (hr : 1002 ≤ r) (hrc : r < c) :
  SCall Go.Proofs.Try.prog [] 24 [.ptr c 0] none ⟨c + 1, og (OO d C c r), lc⟩ (.ret (.int .i64 (compP d C).2.2)) none ⟨c + 1 + compN C, og (OO (compP d C).1 (compP d C).2.1 c (if compR d C = 1003 then r else c + 1 + (compR d C - 1004))), lc⟩ := by
 have hR : 1003 ≤ compR d C ∧ compR d C < 1004 + compN C := by
  unfold compR
  split <;> omega
 have k : HC ⟨c + 1, og (OO d C c r), lc⟩ 1000 1001 c r d C := ⟨by decide, by decide, (by show 1000 ≤ c; omega), (by show 1000 ≤ r; omega), by simp; omega, rfl, rfl, OO_c hr hrc, OO_r hr⟩
 have := cache_liftR (comp_core cf) hR.1 hR.2 trivial trivial k (by show 1000 < c + 1; omega) (by show 1001 < c + 1; omega) (by show c < c + 1; omega) (by show r < c + 1; omega)
 have e : rowAtR ⟨c + 1, og (OO d C c r), lc⟩ r (compR d C) = if compR d C = 1003 then r else c + 1 + (compR d C - 1004) := rfl
 rw [e, hcq_OO hr hrc (Nat.lt_succ_self _) (by split <;> omega)] at this
 exact this
def opP (d : Dk) (C : CSt) (good n : Nat) : Dk × CSt × Int := if good < n then compP d C else (d, C, 0)
def opN (C : CSt) (good n : Nat) : Nat := if good < n then compN C else 0
def opR (d : Dk) (C : CSt) (good n c r : Nat) : Nat := if good < n then (if compR d C = 1003 then r else c + 1 + (compR d C - 1004)) else r
def opV (c : Nat) (e : Int) : V := if e = 0 then .tup [.ptr c 0, .int .i64 0] else .tup [.nilp, .int .i64 e]
theorem open_end {QN : S → Prop} {tm : TM} {d : Dk} {C : CSt} {c r good : Nat} {b : List Nat} {lc : LM} (cf : CompFit d C) (hr : 1002 ≤ r) (hrc : r < c) (hb : b.length ≤ 700000000) (hg : good ≤ b.length) (t10 : tg tm 10 = some (.v (.str b))) (t12 : tg tm 12 = some (.v (.int .i64 good))) (t13 : tg tm 13 = some (.v (.ptr c 0))) :
  WR Go.Proofs.Try.prog [] ⟨Go.Proofs.Try.f18.ntmps, none, 18⟩ rc18_J3 (SL.toS ⟨tm, [], none, c + 1, OO d C c r, lc⟩) QN
   (retX (RetS Go.Proofs.Try.prog Go.Proofs.Try.f18 (opV c (opP d C good b.length).2.2) (c + 1 + opN C good b.length) (OO (opP d C good b.length).1 (opP d C good b.length).2.1 c (opR d C good b.length c r)))) := by
 refine WR.weak (s := SL.toS ⟨[(10, .v (.str b)), (12, .v (.int .i64 good)), (13, .v (.ptr c 0))], [], none, c + 1, OO d C c r, []⟩) (SW.tellR (.cons t10 (.v (VLe.refl _)) (.cons t12 (.v (VLe.refl _)) (.cons t13 (.v (VLe.refl _)) .nil))) .nil) ?_
 unfold rc18_J3
 have hg : decide ((good : Int) < (b.length : Int)) = decide (good < b.length) := by
  by_cases h : good < b.length
  ·rw [decide_eq_true h, decide_eq_true (by omega)]
  ·rw [decide_eq_false h, decide_eq_false (by omega)]
 refine WR.seq (WR.seq (WR.reg (WQ.runS [] 1000 _ _ _ _ rfl (WQ.nilS ?_))))
 rw [hg]
 have fin : ∀ tm (d : Dk) (C : CSt) (r n : Nat), tg tm 13 = some (.v (.ptr c 0)) → ∀ QN, WR Go.Proofs.Try.prog [] ⟨Go.Proofs.Try.f18.ntmps, none, 18⟩ rc18_J2 (SL.toS ⟨tm, [], none, n, OO d C c r, []⟩) QN (retX (RetS Go.Proofs.Try.prog Go.Proofs.Try.f18 (.tup [.ptr c 0, .int .i64 0]) n (OO d C c r))) := by
  intro tm d C r n g13 QN
  refine WR.weak (s := SL.toS ⟨[(13, .v (.ptr c 0))], [], none, n, OO d C c r, []⟩) (SW.tellR (.cons g13 (.v (VLe.refl _)) .nil) .nil) ?_
  unfold rc18_J2
  refine WR.seq (WR.reg (WQ.runS [] 1000 _ _ _ _ rfl (WQ.nilS ?_)))
  refine WR.ret ⟨rfl, rfl, ⟨_, rfl, VLe.refl _⟩, fun b _ => rfl⟩
 refine WR.cond rfl (fun h => ?_) (fun h => ?_)
 ·have h := of_decide_eq_true h
  have e1 : opP d C good b.length = compP d C := if_pos h
  have e2 : opN C good b.length = compN C := if_pos h
  have e3 : opR d C good b.length c r = (if compR d C = 1003 then r else c + 1 + (compR d C - 1004)) := if_pos h
  rw [e1, e2, e3]
  have sc := comp_OO (lc := []) cf hr hrc
  generalize compP d C = T at sc ⊢
  generalize (if compR d C = 1003 then r else c + 1 + (compR d C - 1004)) = rr at sc ⊢
  refine WR.seq (WR.reg (WQ.runS [] 1 _ _ _ _ rfl ?_))
  refine WQ.callH rfl rfl rfl rfl rfl sc .base rfl (WQ.runS [] 1000 _ _ _ _ rfl (WQ.nilS ?_))
  refine WR.seq (WR.reg (WQ.runS [] 1000 _ _ _ _ rfl (WQ.nilS ?_)))
  by_cases hz : T.2.2 = 0
  ·rw [hz]
   refine WR.condF rfl (WR.skip ?_)
   exact fin _ _ _ _ _ rfl _
  ·rw [show (!decide (T.2.2 = 0)) = true from by simp [hz]]
   refine WR.condT rfl ?_
   refine WR.seq (WR.reg (WQ.runS [] 1000 _ _ _ _ rfl (WQ.nilS ?_)))
   rw [show opV c T.2.2 = .tup [.nilp, .int .i64 T.2.2] from if_neg hz]
   refine WR.ret ⟨rfl, rfl, ⟨_, rfl, VLe.refl _⟩, fun b _ => rfl⟩
 ·have h := of_decide_eq_false h
  have e1 : opP d C good b.length = (d, C, 0) := if_neg h
  have e2 : opN C good b.length = 0 := if_neg h
  have e3 : opR d C good b.length c r = r := if_neg h
  rw [e1, e2, e3]
  refine WR.skip ?_
  exact fin _ _ _ _ _ rfl _
end Go.VM
end
section
/- The cache: it is opened. -/
set_option maxRecDepth 100000
set_option linter.unusedVariables false
set_option linter.unusedSimpArgs false
namespace Go.VM
open Go.RowKit
theorem bxR {nt nx : Nat} {tm : TM} {x : RX} {p : OL} {o : Obj} {lc : LM} (hp : keysLt p nx) (ha : rahC [] tm nx (.bx x) = some (.ptr nx 0, o)) : DoesR Go.Proofs.Try.prog [] nt tm ⟨nx, og p, lc⟩ (some (.bx x)) (.v (.ptr nx 0)) ⟨nx + 1, og (p ++ [(nx, o)]), lc⟩ := by
 have h1 := obj_doesR (P := Go.Proofs.Try.prog) (gl := []) (nt := nt) (tm := tm) (h := ⟨nx, og p, lc⟩) (ro := .bx x) (v := .ptr nx 0) (ob := o) (rah_objR (rahC_eq ha)) rfl
 have h2 := rowNew (lc := lc) o hp
 rw [List.append_nil] at h2
 rw [h2] at h1
 exact h1
def rc18_m : RC := .seq (.reg [.mv 0 49, .mv 1 50, .mv 2 51, .mv 8 52, .mv 10 53, .op (.lenS (.t 53)) 54, .mv 11 55, .op (.bld [.nilp, .int .i64 0, .int .i64 0, .int .i64 0, .int .i64 0, .lst [] (.ex 0), .int .i64 0] [(0, 1), (1, 1), (2, 1), (3, 1), (4, 1), (5, 1), (6, 1)] [(0, .t 49), (1, .t 50), (2, .t 51), (3, .t 52), (4, .t 54), (5, .t 55)]) 56, .op (.bx (.t 56)) 57, .mv 57 13]) (.seq (.seq (.reg [.mv 11 58, .op (.lenL (.t 58)) 59, .op (.mv (.c (.int .i64 0))) 60]) (.block 0 (.loop rc18_L1))) rc18_J3)
def opC (most bytes root : Int) (n : Nat) (L : List EZ) : CSt := ⟨most, bytes, root, n, L, maxL L 0⟩
theorem open_mid {QN : S → Prop} {tm : TM} {d : Dk} {most bytes root : Int} {b : List Nat} {L : List EZ} {r good : Nat} (cf : CompFit d (opC most bytes root b.length L)) (hr : 1009 ≤ r) (hL : L.length ≤ 100000000) (hb : b.length ≤ 700000000) (hg : good ≤ b.length)
  (t0 : tg tm 0 = some (.v (.ptr 1000 0))) (t1 : tg tm 1 = some (.v (.int .i64 most))) (t2 : tg tm 2 = some (.v (.int .i64 bytes))) (t8 : tg tm 8 = some (.v (.int .i64 root))) (t10 : tg tm 10 = some (.v (.str b))) (t11 : tg tm 11 = some (.v (clV r L))) (t12 : tg tm 12 = some (.v (.int .i64 good))) :
  WR Go.Proofs.Try.prog [] ⟨Go.Proofs.Try.f18.ntmps, none, 18⟩ rc18_m (SL.toS ⟨tm, [], none, r + 1, PO d r L, []⟩) QN
   (retX (RetS Go.Proofs.Try.prog Go.Proofs.Try.f18 (opV (r + 1) (opP d (opC most bytes root b.length L) good b.length).2.2) (r + 1 + 1 + opN (opC most bytes root b.length L) good b.length) (OO (opP d (opC most bytes root b.length L) good b.length).1 (opP d (opC most bytes root b.length L) good b.length).2.1 (r + 1) (opR d (opC most bytes root b.length L) good b.length (r + 1) r)))) := by
 refine WR.weak (s := SL.toS ⟨[(0, .v (.ptr 1000 0)), (1, .v (.int .i64 most)), (2, .v (.int .i64 bytes)), (8, .v (.int .i64 root)), (10, .v (.str b)), (11, .v (clV r L)), (12, .v (.int .i64 good))], [], none, r + 1, PO d r L, []⟩) (SW.tellR (.cons t0 (.v (VLe.refl _)) (.cons t1 (.v (VLe.refl _)) (.cons t2 (.v (VLe.refl _)) (.cons t8 (.v (VLe.refl _)) (.cons t10 (.v (VLe.refl _)) (.cons t11 (.v (VLe.refl _)) (.cons t12 (.v (VLe.refl _)) .nil))))))) .nil) ?_
 unfold rc18_m
 cases L with
 | nil =>
  refine WR.seq (WR.reg (WQ.runS [] 8 _ _ _ _ rfl ?_))
  refine WQ.doesS rfl (bxR (o := .cells false (encC 1000 r { opC most bytes root b.length [] with last := 0 })) (PO_lt (by omega) (Nat.lt_succ_self r)) rfl) rfl ?_
  refine WQ.runS [] 1000 _ _ _ _ rfl (WQ.nilS ?_)
  refine WR.seq (WR.seq (WR.reg (WQ.runS [] 1000 _ _ _ _ rfl (WQ.nilS ?_))))
  refine WR.block (WR.loop ?_)
  unfold rc18_L1
  refine WLr.of ?_
  refine WR.seq (WR.reg (WQ.runS [] 1000 _ _ _ _ rfl (WQ.nilS ?_)))
  refine WR.seq (WR.condF rfl (WR.exit ?_))
  exact open_end cf (by omega) (Nat.lt_succ_self r) hb hg rfl rfl rfl
 | cons e l =>
  refine WR.seq (WR.reg (WQ.runS [] 8 _ _ _ _ rfl ?_))
  refine WQ.doesS rfl (bxR (o := .cells false (encC 1000 r { opC most bytes root b.length (e :: l) with last := 0 })) (PO_lt (by omega) (Nat.lt_succ_self r)) rfl) rfl ?_
  refine WQ.runS [] 1000 _ _ _ _ rfl (WQ.nilS ?_)
  refine WR.seq (WR.seq (WR.reg (WQ.runS [] 1000 _ _ _ _ rfl (WQ.nilS ?_))))
  refine WR.block (WR.loop ?_)
  refine WLr.weak ?_ (open_loop d (opC most bytes root b.length (e :: l)) (r + 1) r b good hr (Nat.lt_succ_self r) (by simp [opC]) hL (e :: l).length 0 0 (by show 0 + _ = _; simp [opC]) (fun tm lc g10 g12 g13 => ?_))
  ·refine SW.tellR ?_ ?_
   ·repeat (first | exact .nil | refine .cons rfl (.v (VLe.refl _)) ?_ | refine .cons rfl (.l _ _ rfl) ?_ | refine .cons rfl (.v (VLe.unk _ _)) ?_)
   ·repeat (first | exact .nil | refine .cons rfl (.inl rfl) ?_)
  ·exact open_end cf (by omega) (Nat.lt_succ_self r) hb hg g10 g12 g13
end Go.VM
end
section
/- The cache: it is opened: all of it. -/
set_option maxRecDepth 100000
set_option linter.unusedVariables false
set_option linter.unusedSimpArgs false
namespace Go.VM
open Go.RowKit
theorem opRd {d : Dk} {C : CSt} {good n c r : Nat} (hr : 1002 ≤ r) (hrc : r < c) : (1002 ≤ opR d C good n c r ∧ opR d C good n c r < c + 1 + opN C good n ∧ opR d C good n c r ≠ c) := by
 unfold opR opN
 split
 ·have hR : 1003 ≤ compR d C ∧ compR d C < 1004 + compN C := by
   unfold compR
   split <;> omega
  split <;> omega
 ·omega
theorem OO_B {d : Dk} {C : CSt} {c r N : Nat} (h1 : 1002 ≤ r) (h2 : r < N) (h3 : 1002 ≤ c) (h4 : c < N) : olB N (OO d C c r) = true := by
 simp [OO, PO, olB]; omega
theorem OO_in {d : Dk} {C : CSt} {c r N : Nat} (h1 : 1002 ≤ r) (h2 : r < N) : olIn (· < N) (OO d C c r) :=
 ⟨encD_in d 1001 (by show 1001 < N; omega) (by decide), trivial, rowO_in _, ⟨(by show 1000 < N; omega), trivial, trivial, trivial, trivial, clV_in _ h2, trivial, trivial⟩, trivial⟩
theorem opV_in {c N : Nat} {e : Int} (h : c < N) : (opV c e).In (· < N) := by
 unfold opV
 split
 ·exact ⟨h, trivial, trivial⟩
 ·exact ⟨trivial, trivial, trivial⟩
def opRow (L : List EZ) : Nat := 1009 + (L.length - 1)
def areaD (d : Dk) : List Nat := if d.root = 0 then d.a0 else d.a1
def scL (d : Dk) : List EZ := (scanR (areaD d)).1.l.map toZ
def diskC (d : Dk) (most bytes : Int) : CSt := opC most bytes d.root (areaD d).length (scL d)
theorem tokS {fr : Fr} {tm : TM} {df : List AD} {u : Option AMode} {nx : Nat} {p : OL} {lc : LM} (hp : keysLt p nx) : SW [] fr (SL.toS ⟨tm, df, u, nx, p, lc⟩) (SL.toS ⟨tm, df, u, nx + 1, p ++ [(nx, .tok 0)], lc⟩) := by
 have h1 : SW [] fr (SL.toS ⟨tm, df, u, nx, p, lc⟩) { (SL.toS ⟨tm, df, u, nx, p, lc⟩) with h := (SL.toS ⟨tm, df, u, nx, p, lc⟩).h.new (.tok 0) } := SW.tok (gl := [])
 have h2 := rowNew (lc := lc) (.tok 0) hp
 rw [List.append_nil] at h2
 have e : ({ (SL.toS ⟨tm, df, u, nx, p, lc⟩) with h := (SL.toS ⟨tm, df, u, nx, p, lc⟩).h.new (.tok 0) } : S) = SL.toS ⟨tm, df, u, nx + 1, p ++ [(nx, .tok 0)], lc⟩ := congrArg (fun h : H => S.mk tm df u h) h2
 rw [e] at h1
 exact h1
theorem dol_lt {d : Dk} {N : Nat} (h : 1002 ≤ N) : keysLt (dol d) N := by
 intro e he
 simp only [dol, List.mem_cons, List.not_mem_nil, or_false] at he
 rcases he with rfl | rfl <;> simp only <;> omega
theorem open_core {d : Dk} {most bytes : Int} (hoff : d.off = false) (hroot : d.root = 0 ∨ d.root = 1) (hm : 0 ≤ most) (hb : 0 ≤ bytes) (cf : CompFit d (diskC d most bytes)) (hlen : (areaD d).length ≤ 700000000) (h8 : ∀ x ∈ areaD d, x < 256) (hg : (scanR (areaD d)).1.good ≤ (areaD d).length) :
  SCall Go.Proofs.Try.prog [] 18 [.ptr 1000 0, .int .i64 most, .int .i64 bytes] none ⟨1002, og (dol d), []⟩ (.ret (opV (opRow (scL d) + 1) (opP d (diskC d most bytes) (scanR (areaD d)).1.good (areaD d).length).2.2)) none
   ⟨opRow (scL d) + 1 + 1 + opN (diskC d most bytes) (scanR (areaD d)).1.good (areaD d).length, og (OO (opP d (diskC d most bytes) (scanR (areaD d)).1.good (areaD d).length).1 (opP d (diskC d most bytes) (scanR (areaD d)).1.good (areaD d).length).2.1 (opRow (scL d) + 1) (opR d (diskC d most bytes) (scanR (areaD d)).1.good (areaD d).length (opRow (scL d) + 1) (opRow (scL d)))), []⟩ := by
 have hn : nowF d = (d.root, 0) := by simp [nowF, hoff]
 have ha : areaF d d.root = (areaD d, 0) := by
  unfold areaF areaD
  rw [hoff]
  rcases hroot with h | h <;> rw [h] <;> rfl
 have hrr : 1009 ≤ opRow (scL d) := by unfold opRow; omega
 obtain ⟨q1, q2, q3⟩ := opRd (d := d) (C := diskC d most bytes) (good := (scanR (areaD d)).1.good) (n := (areaD d).length) (c := opRow (scL d) + 1) (r := opRow (scL d)) (by omega) (by omega)
 refine SCall.listed (fn := Go.Proofs.Try.f18) (by kernel_rfl) res18 (by kernel_rfl) (by kernel_rfl) (by omega) (OO_B q1 q2 (by omega) (by omega)) (OO_in q1 q2) (opV_in (by omega)) ?_
 unfold rc18
 have sc := scan_own (areaD d) hlen h8 ⟨1002, og (dol d), []⟩
 have now := now_core d
 have area := area_core d d.root
 rw [hn] at now
 rw [ha] at area
 have mid := fun (tm : TM) QN => open_mid (QN := QN) (tm := tm) (d := d) (most := most) (bytes := bytes) (root := d.root) (b := areaD d) (L := scL d) (r := opRow (scL d)) (good := (scanR (areaD d)).1.good) cf hrr (by have := cf.cf.n; have h2 : (diskC d most bytes).L.length = (scL d).length := rfl; omega) hlen hg
 unfold diskC at *
 unfold scL at *
 generalize (scanR (areaD d)).1.good = good at *
 generalize (scanR (areaD d)).1.l.map toZ = L at *
 generalize areaD d = b at *
 refine WR.seq (WR.reg (WQ.runS [] 1000 _ _ _ _ rfl (WQ.nilS ?_)))
 refine WR.seq (WR.seq (WR.reg (WQ.runS [] 5 _ _ _ _ rfl ?_)))
 rw [show decide (most < 0) = false from decide_eq_false (by omega)]
 refine WQ.runS [] 4 _ _ _ _ rfl ?_
 rw [show decide (bytes < 0) = false from decide_eq_false (by omega)]
 refine WQ.runS [] 1000 _ _ _ _ rfl (WQ.nilS ?_)
 refine WR.condF rfl (WR.skip ?_)
 refine WR.seq (WR.reg (WQ.runS [] 1 _ _ _ _ rfl ?_))
 refine WQ.callH rfl rfl rfl rfl rfl now .base rfl (WQ.runS [] 1000 _ _ _ _ rfl (WQ.nilS ?_))
 refine WR.seq (WR.seq (WR.reg (WQ.runS [] 1000 _ _ _ _ rfl (WQ.nilS ?_))))
 refine WR.condF rfl (WR.skip ?_)
 refine WR.seq (WR.reg (WQ.runS [] 2 _ _ _ _ rfl ?_))
 refine WQ.callH rfl rfl rfl rfl rfl area .base rfl (WQ.runS [] 1000 _ _ _ _ rfl (WQ.nilS ?_))
 refine WR.seq (WR.seq (WR.reg (WQ.runS [] 1000 _ _ _ _ rfl (WQ.nilS ?_))))
 refine WR.condF rfl (WR.skip ?_)
 refine WR.seq (WR.reg (WQ.runS [] 1 _ _ _ _ rfl ?_))
 cases L with
 | nil =>
  have e : scH ⟨1002, og (dol d), []⟩ [] = ⟨1009, og (dol d), []⟩ := by
   unfold scH
   congr 1
  rw [e] at sc
  refine WQ.callH rfl rfl rfl rfl rfl sc .base rfl (WQ.runS [] 1000 _ _ _ _ rfl (WQ.nilS ?_))
  refine WR.weak (tokS (dol_lt (by omega))) ?_
  refine WR.weak (s := SL.toS ⟨[(0, .v (.ptr 1000 0)), (1, .v (.int .i64 most)), (2, .v (.int .i64 bytes)), (8, .v (.int .i64 d.root)), (10, .v (.str b)), (11, .v (.lst [] (.ex 0))), (12, .v (.int .i64 good))], [], none, 1010, PO d 1009 [], []⟩) ?_ (mid _ _ rfl rfl rfl rfl rfl rfl rfl)
  refine SW.tellR ?_ ?_
  ·repeat (first | exact .nil | refine .cons rfl (.v (VLe.refl _)) ?_ | refine .cons rfl (.l _ _ rfl) ?_ | refine .cons rfl (.v (VLe.unk _ _)) ?_)
  ·repeat (first | exact .nil | refine .cons rfl (.inl rfl) ?_)
 | cons e l =>
  have e1 : scH ⟨1002, og (dol d), []⟩ (e :: l) = ⟨opRow (e :: l) + 1, og (PO d (opRow (e :: l)) (e :: l)), []⟩ := by
   have hrow : scRow 1002 (e :: l) = opRow (e :: l) := by unfold scRow opRow; omega
   have hnx : 1002 + 7 + (e :: l).length = opRow (e :: l) + 1 := by unfold opRow; simp only [List.length_cons]; omega
   have hge : 1009 ≤ opRow (e :: l) := by unfold opRow; omega
   have hk : ∀ k, (if e :: l ≠ [] ∧ k = scRow 1002 (e :: l) then some (Obj.cells true (flatZ (e :: l))) else og (dol d) k) = og (PO d (opRow (e :: l)) (e :: l)) k := by
    intro k
    rw [hrow]
    generalize opRow (e :: l) = R at hge
    by_cases k0 : k = R
    ·rw [if_pos ⟨List.cons_ne_nil _ _, k0⟩, k0]
     simp only [PO, og_cons]
     rw [if_neg (by omega), if_neg (by omega), if_pos trivial]; rfl
    ·rw [if_neg (fun q => k0 q.2)]
     simp only [PO, dol, og_cons, if_neg k0]
   show H.mk (1002 + 7 + (e :: l).length) _ _ = _
   rw [hnx]
   exact congrArg (fun f => H.mk (opRow (e :: l) + 1) f []) (funext hk)
  rw [e1] at sc
  refine WQ.callH rfl rfl rfl rfl rfl sc .base rfl (WQ.runS [] 1000 _ _ _ _ rfl (WQ.nilS ?_))
  exact mid _ _ rfl rfl rfl rfl rfl rfl rfl
end Go.VM
end
