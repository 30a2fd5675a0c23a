/- laid for this seat: VcComp10 VcComp11 VcComp12 VcLift2 VcTidy2 VcBud -/
import Derived.Test.YtonlemmcdecibaaVg10
import Derived.Test.YtonlemmcdecibaaVg09
section
/- The cache: laying all anew: all of it. -/
set_option maxRecDepth 100000
set_option linter.unusedVariables false
set_option linter.unusedSimpArgs false
namespace Go.VM
open Go.RowKit
structure CompFit (d : Dk) (C : CSt) : Prop where
 cf : CFit C
 root : C.root = 0 ∨ C.root = 1
 ft : Fit d (wgts (pickF C.L (keptF C.L C.most C.bytes).reverse))
 ws : d.ws.length + 2 * (keptF C.L C.most C.bytes).length + 2 ≤ 100000000
 wl : wgts (pickF C.L (keptF C.L C.most C.bytes).reverse) ≤ 4000000000
theorem compJ3 {asC bdC : Code} {d : Dk} {C : CSt} {e : Int} {N : CSt} {rn nx : Nat} {is : List (List V)} {tm : TM} (h : 1011 ≤ rn) (hrn : rn < nx) (ft : Fit d 0) (t1 : tg tm 1 = some (.v (.ptr 1004 0))) (t3 : tg tm 3 = some (.v (.int .i64 (1 - C.root)))) (t4 : tg tm 4 = some (.v (.ptr 1005 0))) (t5 : tg tm 5 = some (.v (.ptr 1007 0))) {QN : S → Prop} :
  WR Go.Proofs.Try.prog [] ⟨Go.Proofs.Try.f24.ntmps, none, 24⟩ rc24_J3 (SL.toS ⟨tm, [.collected 1009], none, nx, memK d (encC 1000 1003 C) (rowO C.L) e N rn is (lpK .exhausted asC bdC), []⟩) QN
   (retX (RetC Go.Proofs.Try.prog Go.Proofs.Try.f24 (.int .i64 (if e = 0 then (write d ⟨3, 1 - C.root, []⟩).2 else e)) nx (outE (if e = 0 then (write d ⟨3, 1 - C.root, []⟩).1 else d) C (if e = 0 then (write d ⟨3, 1 - C.root, []⟩).2 else e) N rn is (lpK .exhausted asC bdC)))) := by
 refine WR.weak (s := SL.toS ⟨[(1, .v (.ptr 1004 0)), (3, .v (.int .i64 (1 - C.root))), (4, .v (.ptr 1005 0)), (5, .v (.ptr 1007 0))], [.collected 1009], none, nx, memK d (encC 1000 1003 C) (rowO C.L) e N rn is (lpK .exhausted asC bdC), []⟩) (SW.tellR (.cons t1 (.v (VLe.refl _)) (.cons t3 (.v (VLe.refl _)) (.cons t4 (.v (VLe.refl _)) (.cons t5 (.v (VLe.refl _)) .nil)))) .nil) ?_
 unfold rc24_J3
 refine WR.seq (WR.seq (WR.reg (WQ.runS [] 1000 _ _ _ _ rfl (WQ.nilS ?_))))
 by_cases he : e = 0
 ·subst he
  rw [show decide ((0 : Int) = 0) = true from rfl, if_pos rfl, if_pos rfl]
  have hdk : HD ⟨nx, og (memK d (encC 1000 1003 C) (rowO C.L) 0 N rn is (lpK .exhausted asC bdC)), []⟩ 1000 1001 d := ⟨by decide, by decide, by decide, rfl, rfl⟩
  have rc := root_call (a := 1 - C.root) ft hdk
  rw [memK_hd] at rc
  generalize write d ⟨3, 1 - C.root, []⟩ = z at *
  obtain ⟨d', e'⟩ := z
  refine WR.condT rfl (WR.reg (WQ.runS [] 5 _ _ _ _ rfl ?_))
  refine WQ.callH rfl rfl rfl rfl rfl rc .base rfl (WQ.runS [] 1000 _ _ _ _ rfl (WQ.nilS ?_))
  refine WR.weak (s := SL.toS ⟨[(1, .v (.ptr 1004 0)), (4, .v (.ptr 1005 0)), (5, .v (.ptr 1007 0))], [.collected 1009], none, nx, memK d' (encC 1000 1003 C) (rowO C.L) e' N rn is (lpK .exhausted asC bdC), []⟩) ?_ (compTail h hrn rfl rfl rfl)
  refine SW.tellR ?_ ?_
  ·repeat (first | exact .nil | refine .cons rfl (.v (VLe.refl _)) ?_ | refine .cons rfl (.l _ _ rfl) ?_ | refine .cons rfl (.v (VLe.unk _ _)) ?_)
  ·repeat (first | exact .nil | refine .cons rfl (.inl rfl) ?_)
 ·rw [show decide (e = 0) = false from decide_eq_false he, if_neg he, if_neg he]
  refine WR.condF rfl (WR.skip ?_)
  refine WR.weak (s := SL.toS ⟨[(1, .v (.ptr 1004 0)), (4, .v (.ptr 1005 0)), (5, .v (.ptr 1007 0))], [.collected 1009], none, nx, memK d (encC 1000 1003 C) (rowO C.L) e N rn is (lpK .exhausted asC bdC), []⟩) ?_ (compTail h hrn rfl rfl rfl)
  refine SW.tellR ?_ ?_
  ·repeat (first | exact .nil | refine .cons rfl (.v (VLe.refl _)) ?_ | refine .cons rfl (.l _ _ rfl) ?_ | refine .cons rfl (.v (VLe.unk _ _)) ?_)
  ·repeat (first | exact .nil | refine .cons rfl (.inl rfl) ?_)
theorem KFit.fold {xs : List EZ} : ∀ {d : Dk} {e : Int} {N : CSt}, KFit d N (wgts xs) xs.length → Fit (xs.foldl cstep (d, e, N)).1 0 := by
 induction xs with
 | nil => intro d e N k; exact k.ft
 | cons x xs ih =>
  intro d e N k
  exact ih (cstep_fit (e := e) k)
theorem pickF_all {L : List EZ} : ∀ {is : List Nat}, (∀ i ∈ is, i < L.length) → (pickF L is).length = is.length
 | [], _ => rfl
 | i :: is, h => by
  obtain ⟨e, he⟩ : ∃ e, L[i]? = some e := ⟨_, List.getElem?_eq_getElem (h i (by simp))⟩
  have : pickF L (i :: is) = e :: pickF L is := by simp [pickF, he]
  rw [this, List.length_cons, List.length_cons, pickF_all (fun j hj => h j (by simp [hj]))]
theorem outE_B {d : Dk} {C : CSt} {e : Int} {N : CSt} {rn nx : Nat} {is : List (List V)} {lp : ALoop} (h : 1011 ≤ rn) (h2 : rn < nx) : olB nx (outE d C e N rn is lp) = true := by
 have e0 : ∀ k, k < 1011 → Nat.blt k nx = true := fun k hk => by rw [Nat.blt_eq]; omega
 have e2 : Nat.blt rn nx = true := by rw [Nat.blt_eq]; omega
 unfold outE
 split
 ·simp only [midA, List.cons_append, List.nil_append, olB, e0 1000 (by omega), e0 1001 (by omega), e0 1002 (by omega), e0 1004 (by omega), e0 1005 (by omega), e0 1006 (by omega), e0 1007 (by omega), e0 1008 (by omega), e0 1009 (by omega), e0 1010 (by omega), e2, Bool.and_self]
 ·simp only [finB, List.cons_append, List.nil_append, olB, e0 1000 (by omega), e0 1001 (by omega), e0 1002 (by omega), e0 1003 (by omega), e0 1004 (by omega), e0 1005 (by omega), e0 1006 (by omega), e0 1007 (by omega), e0 1008 (by omega), e0 1009 (by omega), e0 1010 (by omega), e2, Bool.and_self]
theorem lpK_ref {st : LoopState} {asC bdC : Code} {nx : Nat} (h : 1011 ≤ nx) : ORefLt nx (.loop (lpK st asC bdC)) := by
 refine loop_refLt (fun t v hv => ?_)
 have hv : tg tmK t = some v := hv
 have := tg_mem hv
 simp only [tmK, List.mem_cons, List.not_mem_nil, or_false, Prod.mk.injEq] at this
 rcases this with ⟨_, rfl⟩ | ⟨_, rfl⟩ | ⟨_, rfl⟩
 ·exact ⟨_, rfl, show 1004 < nx by omega⟩
 ·exact ⟨_, rfl, show 1005 < nx by omega⟩
 ·exact ⟨_, rfl, show 1007 < nx by omega⟩
def olRef (nx : Nat) : OL → Prop
 | [] => True
 | p :: r => ORefLt nx p.2 ∧ olRef nx r
theorem olRef.og {nx : Nat} : ∀ {ol : OL}, olRef nx ol → ∀ c o, og ol c = some o → ORefLt nx o
 | [], _, _, _, h => nomatch h
 | (k, x) :: r, q, c, o, h => by
  rw [og_cons] at h
  by_cases hc : c = k
  ·rw [if_pos hc] at h
   have : x = o := Option.some.inj h
   rw [← this]; exact q.1
  ·rw [if_neg hc] at h
   exact olRef.og q.2 c o h
theorem ref_tok {nx n : Nat} : ORefLt nx (.tok n) := fun _ _ _ h => h
theorem ref_dfr {nx : Nat} : ORefLt nx (.dfr none) := fun _ _ _ h => h
theorem encC_in {nx b r : Nat} {C : CSt} (hb : b < nx) (hr : r < nx) : Ins (· < nx) (encC b r C) := ⟨hb, trivial, trivial, trivial, trivial, clV_in _ hr, trivial, trivial⟩
theorem outE_ref {d : Dk} {C : CSt} {e : Int} {N : CSt} {rn nx : Nat} {is : List (List V)} {st : LoopState} {asC bdC : Code} (h : 1011 ≤ rn) (h2 : rn < nx) (his : Inss (fun _ => False) is) : ∀ c o, og (outE d C e N rn is (lpK st asC bdC)) c = some o → ORefLt nx o := by
 have h0 : 1011 ≤ nx := by omega
 have g1 : ORefLt nx (.cells false (encD d 1001)) := Obj.In.refLt (o := .cells false _) (encD_in d 1001 (show 1001 < nx by omega) (by decide))
 have g3 : ORefLt nx (.cells false (encC 1000 rn C)) := Obj.In.refLt (o := .cells false _) (encC_in (by omega) h2)
 have g3N : ORefLt nx (.cells false (encC 1000 rn N)) := Obj.In.refLt (o := .cells false _) (encC_in (by omega) h2)
 have g3' : ORefLt nx (.cells false (encC 1000 1003 C)) := Obj.In.refLt (o := .cells false _) (encC_in (by omega) (by omega))
 have g4 : ORefLt nx (.cells false [.ptr 1002 0]) := Obj.In.refLt (o := .cells false _) ⟨(by show 1002 < nx; omega), trivial⟩
 have g5 : ORefLt nx (.cells false [.int .i64 e]) := Obj.In.refLt (o := .cells false _) ⟨trivial, trivial⟩
 have g7 : ORefLt nx (.cells false [.ptr 1006 0]) := Obj.In.refLt (o := .cells false _) ⟨(by show 1006 < nx; omega), trivial⟩
 have g8 : ORefLt nx (.cells false [.lst is .unk]) := Obj.In.refLt (o := .cells false _) ⟨⟨Inss.mono (fun _ q => q.elim) his, trivial⟩, trivial⟩
 have gr : ORefLt nx (rowO N.L) := (rowO_in N.L).refLt
 have gc : ORefLt nx (rowO C.L) := (rowO_in C.L).refLt
 have gl := lpK_ref (st := st) (asC := asC) (bdC := bdC) h0
 refine olRef.og ?_
 unfold outE
 split
 ·exact ⟨g1, ref_tok, g3N, g4, g5, g3N, g7, g8, ref_dfr, gl, gr, trivial⟩
 ·exact ⟨g1, ref_tok, g3', gc, g4, g5, g3N, g7, g8, ref_dfr, gl, gr, trivial⟩
end Go.VM
end
section
/- The cache: laying all anew: all of it, walked. -/
set_option maxRecDepth 100000
set_option linter.unusedVariables false
set_option linter.unusedSimpArgs false
namespace Go.VM
open Go.RowKit
def stA (d : Dk) (C : CSt) : OL := [(1000, .cells false (encD d 1001)), (1001, .tok d.ws.length), (1002, .cells false (encC 1000 1003 C)), (1003, rowO C.L), (1004, .cells false [.ptr 1002 0])]
theorem stA_hd {d d' : Dk} {C : CSt} {lc : LM} : hd ⟨1005, og (stA d C), lc⟩ 1000 1001 d' = ⟨1005, og (stA d' C), lc⟩ := by
 unfold hd
 rw [og_put, og_put]; rfl
def stB (d : Dk) (C : CSt) (e : Int) : OL := stA d C ++ [(1005, .cells false [.int .i64 e]), (1006, .cells false (encC 1000 1003 (newC C))), (1007, .cells false [.ptr 1006 0])]
theorem kcells_ren (ρ : Nat → Nat) : ∀ l : List Nat, renss ρ (l.map kcell) = l.map kcell
 | [] => rfl
 | i :: l => by
  show rens ρ (kcell i) :: renss ρ (l.map kcell) = _
  rw [kcells_ren ρ l]; rfl
theorem comp_walk {d : Dk} {C : CSt} (cf : CompFit d C) :
  ∃ i : Code × Code, SCall Go.Proofs.Try.prog [] 24 [.ptr 1002 0] none ⟨1004, og (CO d C 1003), []⟩ (.ret (.int .i64 (compP d C).2.2)) none
   ⟨1012 + (keptF C.L C.most C.bytes).length, og (outE (compP d C).1 C (compP d C).2.2 (laidP d C).2.2 (1011 + (keptF C.L C.most C.bytes).length) ((keptF C.L C.most C.bytes).map kcell) (lpK .exhausted i.1 i.2)), []⟩ := by
 have hwr : IntKind.i64.wrap (1 - C.root) = 1 - C.root := by rcases cf.root with h | h <;> rw [h] <;> rfl
 have hv3 : VLe (.int .i64 (IntKind.i64.wrap (1 - C.root))) (.int .i64 (1 - C.root)) := by rw [hwr]; exact VLe.refl _
 refine SCall.listedE (ι := Code × Code) (P := Go.Proofs.Try.prog) (gl := []) (f := 24) (fn := Go.Proofs.Try.f24) (rc := rc24) (args := [.ptr 1002 0]) (nx := 1004) (ol := CO d C 1003) (nx' := fun _ => 1012 + (keptF C.L C.most C.bytes).length)
  (ol' := fun i => outE (compP d C).1 C (compP d C).2.2 (laidP d C).2.2 (1011 + (keptF C.L C.most C.bytes).length) ((keptF C.L C.most C.bytes).map kcell) (lpK .exhausted i.1 i.2)) (v := fun _ => .int .i64 (compP d C).2.2) (by kernel_rfl) res24 (by kernel_rfl) (by kernel_rfl)
  (fun _ => by omega) (fun _ => outE_B (by omega) (by omega)) (fun _ c hc => .inr fun o ho => outE_ref (by omega) (by omega) (kcells_in _) c o ho) (fun _ => trivial) ?_
 unfold rc24
 refine WR.seq (WR.reg (WQ.runS [1] 1000 _ _ _ _ rfl (WQ.nilS ?_)))
 refine WR.seq (WR.seq (WR.reg (WQ.runS [] 1000 _ _ _ _ rfl (WQ.nilS ?_))))
 refine WR.condF rfl (WR.skip ?_)
 refine WR.seq (WR.reg (WQ.runS [] 1000 _ _ _ _ rfl (WQ.nilS ?_)))
 refine WR.weak (s := SL.toS ⟨[(1, .v (.ptr 1004 0)), (3, .v (.int .i64 (1 - C.root)))], [], none, 1005, stA d C, []⟩) (SW.tellR (.cons rfl (.v (VLe.refl _)) (.cons rfl (.v hv3) .nil)) .nil) ?_
 have ft0 : Fit d 0 := ⟨cf.ft.ws, cf.ft.fuse, by have := cf.ft.a0; omega, by have := cf.ft.a1; omega⟩
 have rc := clear_call (a := 1 - C.root) (h := ⟨1005, og (stA d C), []⟩) ft0 (b := 1000) (t := 1001) ⟨by decide, by decide, by decide, rfl, rfl⟩
 rw [stA_hd] at rc
 have hL : laidP d C = (pickF C.L (keptF C.L C.most C.bytes).reverse).foldl cstep ((write d ⟨2, 1 - C.root, []⟩).1, (write d ⟨2, 1 - C.root, []⟩).2, newC C) := rfl
 have hf1 : Fit (write d ⟨2, 1 - C.root, []⟩).1 (wgts (pickF C.L (keptF C.L C.most C.bytes).reverse)) := write_fit (w := ⟨2, 1 - C.root, []⟩) ⟨cf.ft.ws, cf.ft.fuse, by have := cf.ft.a0; simp; omega, by have := cf.ft.a1; simp; omega⟩ (by have := cf.ws; omega)
 have hw1 := write_ws d ⟨2, 1 - C.root, []⟩
 generalize write d ⟨2, 1 - C.root, []⟩ = z at rc hL hf1 hw1
 obtain ⟨d1, e1⟩ := z
 refine WR.seq (WR.reg (WQ.runS [] 5 _ _ _ _ rfl ?_))
 refine WQ.callH rfl rfl rfl rfl rfl rc .base rfl (WQ.runS [4] 1000 _ _ _ _ rfl (WQ.nilS ?_))
 refine WR.seq (WR.dreg hmix (DW.runS [36, 5] 1000 _ _ _ _ _ _ rfl ?_))
 refine DW.stS (by repeat (first | exact .nil | refine PendR.passM rfl ?_ | refine PendR.sameM rfl ?_ | refine PendR.lightM rfl ?_)) rfl rfl rfl rfl ?_
 refine DW.runS [] 1000 _ _ _ _ _ _ rfl ?_
 refine DW.finS (by repeat (first | exact .nil | refine PendR.passM rfl ?_ | refine PendR.sameM rfl ?_ | refine PendR.lightM rfl ?_)) ?_
 refine WR.weak (s := SL.toS ⟨[(1, .v (.ptr 1004 0)), (3, .v (.int .i64 (1 - C.root))), (4, .v (.ptr 1005 0)), (5, .v (.ptr 1007 0))], [], none, 1008, stB d1 C e1, []⟩) ?_ ?_
 ·refine SW.tellR ?_ ?_
  ·repeat (first | exact .nil | refine .cons rfl (.v (VLe.refl _)) ?_ | refine .cons rfl (.l _ _ rfl) ?_ | refine .cons rfl (.v (VLe.unk _ _)) ?_)
  ·repeat (first | exact .nil | refine .cons rfl (.inl rfl) ?_)
 have hkept := kept_spec C.L C.most C.bytes cf.cf.n (fun e he => by have := cf.cf.sz e he; omega) cf.cf.b1 cf.cf.b2 (h := ⟨1008, og (stB d1 C e1), []⟩) (r := 1003) (by decide) (fun hne => by show some (rowO C.L) = _; rw [rowO_some hne])
 have hback := backward_spec ((keptF C.L C.most C.bytes).map kcell) (kcells_in _) (fun ρ => kcells_ren ρ _) (h := ⟨1008, og (stB d1 C e1), []⟩)
 refine WR.seq (WR.seq (WR.dreg hmix (DW.runS [] 1000 _ _ _ _ _ _ rfl ?_)))
 refine DW.callH (by repeat (first | exact .nil | refine PendR.passM rfl ?_ | refine PendR.sameM rfl ?_ | refine PendR.lightM rfl ?_)) rfl rfl rfl rfl rfl hkept .base rfl (DW.runS [] 1000 _ _ _ _ _ _ rfl ?_)
 refine DW.callH (by repeat (first | exact .nil | refine PendR.passM rfl ?_ | refine PendR.sameM rfl ?_ | refine PendR.lightM rfl ?_)) rfl rfl rfl rfl rfl hback (.new .base rfl) rfl (DW.runS [] 1000 _ _ _ _ _ _ rfl ?_)
 refine DW.finS (by repeat (first | exact .nil | refine PendR.passM rfl ?_ | refine PendR.sameM rfl ?_ | refine PendR.lightM rfl ?_)) ?_
 generalize hidx : keptF C.L C.most C.bytes = idx at *
 have hlen : (pickF C.L idx.reverse).length = idx.length := by
  rw [pickF_all (fun i hi => ?_), List.length_reverse]
  subst hidx
  exact keptF_mem (List.mem_reverse.1 hi)
 have kf : KFit d1 (newC C) (wgts (pickF C.L idx.reverse)) idx.length := by
  have h1 := cf.ws
  have h2 := cf.wl
  have h3 := keptF_len C.L C.most C.bytes
  have h4 := cf.cf.n
  rw [hidx] at h1 h2 h3
  refine ⟨hf1, by simp at hw1; omega, ?_, ?_, Int.le_refl _, ?_⟩
  ·show 0 + _ ≤ _; omega
  ·show 0 + _ ≤ _; omega
  ·show (0 : Int) + _ ≤ _; omega
 refine WR.block (WR.rng tmK rfl rfl ?_ rfl (fun asC bdC ha hb => ?_))
 ·repeat (first | exact .nil | refine .cons rfl (.v (VLe.refl _)) ?_)
 have it := iterC ha hb C idx hidx.symm cf.cf d1 e1 (newC C) rfl kf
 refine ⟨_, _, _, lpK .ready asC bdC, .norm, it, rfl, by simp [lpK], rfl, ?_⟩
 have hfin : Fit ((pickF C.L idx.reverse).foldl cstep (d1, e1, newC C)).1 0 := KFit.fold (by rw [hlen]; exact kf)
 refine (compJ3 (C := C) (asC := asC) (bdC := bdC) (rn := 1011 + idx.length) (nx := 1012 + idx.length) (d := ((pickF C.L idx.reverse).foldl cstep (d1, e1, newC C)).1) (e := ((pickF C.L idx.reverse).foldl cstep (d1, e1, newC C)).2.1) (N := ((pickF C.L idx.reverse).foldl cstep (d1, e1, newC C)).2.2) (is := idx.map kcell) (QN := fun _ => False) (by omega) (by omega) hfin rfl rfl rfl rfl).mono (fun s h => ?_) (fun x s h => ?_)
 ·exact False.elim h
 ·cases x <;> first | exact h.elim | skip
  refine ⟨(asC, bdC), ?_⟩
  have h : RetC Go.Proofs.Try.prog Go.Proofs.Try.f24 _ _ _ s := h
  unfold compP
  rw [hL]
  dsimp only
  generalize (pickF C.L idx.reverse).foldl cstep (d1, e1, newC C) = R at h ⊢
  by_cases he : R.2.1 = 0
  ·rw [if_pos he] at h ⊢
   rw [if_pos he] at h
   exact h
  ·rw [if_neg he] at h ⊢
   rw [if_neg he] at h
   exact h
end Go.VM
end
section
/- The cache: laying all anew, over any memory. -/
set_option maxRecDepth 100000
set_option linter.unusedVariables false
set_option linter.unusedSimpArgs false
namespace Go.VM
open Go.RowKit
def compN (C : CSt) : Nat := 8 + (keptF C.L C.most C.bytes).length
def compR (d : Dk) (C : CSt) : Nat := if (compP d C).2.2 = 0 then 1003 + compN C else 1003
theorem compP_C0 {d : Dk} {C : CSt} (h : (compP d C).2.2 = 0) : (compP d C).2.1 = (laidP d C).2.2 := by
 unfold compP at h ⊢
 by_cases h1 : (laidP d C).2.1 = 0
 ·rw [if_pos h1] at h ⊢; exact if_pos h
 ·rw [if_neg h1] at h; exact absurd h h1
theorem compP_C1 {d : Dk} {C : CSt} (h : (compP d C).2.2 ≠ 0) : (compP d C).2.1 = C := by
 unfold compP at h ⊢
 by_cases h1 : (laidP d C).2.1 = 0
 ·rw [if_pos h1] at h ⊢; exact if_neg h
 ·rw [if_neg h1]
theorem CO_cases {d : Dk} {C : CSt} {r b : Nat} {o : Obj} (h : og (CO d C r) b = some o) : (b = 1000 ∧ o = .cells false (encD d 1001)) ∨ (b = 1001 ∧ o = .tok d.ws.length) ∨ (b = 1002 ∧ o = .cells false (encC 1000 r C)) ∨ (b = r ∧ o = rowO C.L) := by
 simp only [CO, CP, List.cons_append, List.nil_append, og_cons] at h
 split at h
 ·exact .inl ⟨by assumption, (Option.some.inj h).symm⟩
 split at h
 ·exact .inr (.inl ⟨by assumption, (Option.some.inj h).symm⟩)
 split at h
 ·exact .inr (.inr (.inl ⟨by assumption, (Option.some.inj h).symm⟩))
 split at h
 ·exact .inr (.inr (.inr ⟨by assumption, (Option.some.inj h).symm⟩))
 ·cases h
theorem comp_core {d : Dk} {C : CSt} (cf : CompFit d C) :
  SCall Go.Proofs.Try.prog [] 24 [.ptr 1002 0] none ⟨1004, og (CO d C 1003), []⟩ (.ret (.int .i64 (compP d C).2.2)) none ⟨1004 + compN C, og (CO (compP d C).1 (compP d C).2.1 (compR d C)), []⟩ := by
 obtain ⟨i, h⟩ := comp_walk cf
 have hN : 1012 + (keptF C.L C.most C.bytes).length = 1004 + compN C := by unfold compN; omega
 rw [hN] at h
 by_cases h0 : (compP d C).2.2 = 0
 ·have hr : compR d C = 1011 + (keptF C.L C.most C.bytes).length := by unfold compR compN; rw [if_pos h0]; omega
  rw [hr, compP_C0 h0]
  unfold outE at h
  rw [if_pos h0] at h
  generalize keptF C.L C.most C.bytes = idx at *
  refine h.drop rfl rfl (fun b o hb => ?_) (fun b hb => ?_)
  ·rcases CO_cases hb with ⟨rfl, rfl⟩ | ⟨rfl, rfl⟩ | ⟨rfl, rfl⟩ | ⟨rfl, rfl⟩
   ·rfl
   ·rfl
   ·rfl
   ·show og _ _ = _
    simp only [midA, List.cons_append, List.nil_append, og_cons]
    repeat rw [if_neg (by omega)]
    rw [if_pos trivial]
  ·have hb : b < 1004 := hb
   show og _ _ = og _ _
   simp only [midA, CO, CP, List.cons_append, List.nil_append, og_cons]
   split
   ·rfl
   split
   ·rfl
   split
   ·rfl
   repeat rw [if_neg (by omega)]
 ·have hr : compR d C = 1003 := by unfold compR; rw [if_neg h0]
  rw [hr, compP_C1 h0]
  unfold outE at h
  rw [if_neg h0] at h
  generalize keptF C.L C.most C.bytes = idx at *
  refine h.drop rfl rfl (fun b o hb => ?_) (fun b hb => ?_)
  ·rcases CO_cases hb with ⟨rfl, rfl⟩ | ⟨rfl, rfl⟩ | ⟨rfl, rfl⟩ | ⟨rfl, rfl⟩ <;> rfl
  ·have hb : b < 1004 := hb
   rcases Nat.lt_or_ge b 1000 with g | g
   ·show og _ _ = og _ _
    unfold finB CO CP
    rw [og_app, og_app, og_one, og_one, if_neg (by omega), if_neg (by omega)]
    repeat rw [og_cons, if_neg (by omega)]
   ·have : b = 1000 ∨ b = 1001 ∨ b = 1002 ∨ b = 1003 := by omega
    rcases this with rfl | rfl | rfl | rfl <;> rfl
end Go.VM
end
section
/- The cache over any memory: where the row may go elsewhere. -/
set_option maxRecDepth 100000
set_option linter.unusedVariables false
set_option linter.unusedSimpArgs false
namespace Go.VM
open Go.RowKit
def hcq (h : H) (b t c r : Nat) (d : Dk) (C : CSt) (rr n : Nat) : H :=
 ⟨h.nxt + n, fun k => if k = rr then some (rowO C.L) else if k = c then some (.cells false (encC b rr C)) else if k = t then some (.tok d.ws.length) else if k = b then some (.cells false (encD d t)) else if k = r ∨ (h.nxt ≤ k ∧ k < h.nxt + n) then none else h.ob k, h.lc⟩
def rowAtR (h : H) (r r' : Nat) : Nat := if r' = 1003 then r else h.nxt + (r' - 1004)
theorem cache_liftR {f : FuncId} {xs : List V} {v : V} {d d' : Dk} {C C' : CSt} {r' n : Nat} (core : SCall Go.Proofs.Try.prog [] f (.ptr 1002 0 :: xs) none ⟨1004, og (CO d C 1003), []⟩ (.ret v) none ⟨1004 + n, og (CO d' C' r'), []⟩) (hr0 : 1003 ≤ r') (hr1 : r' < 1004 + n) (ha : Ins (· < glim) xs) (hv : v.In (· < glim)) {h : H} {b t c r : Nat} (k : HC h b t c r d C) (lb : b < h.nxt) (lt : t < h.nxt) (lc : c < h.nxt) (lr : r < h.nxt) :
  SCall Go.Proofs.Try.prog [] f (.ptr c 0 :: xs) none h (.ret v) none (hcq h b t c r d' C' (rowAtR h r r') n) := by
 obtain ⟨hb, ht, hc, hr, nd, ob, tk, cc, row⟩ := k
 have nd' := nd
 simp only [List.nodup_cons, List.mem_cons, List.not_mem_nil, not_or, or_false, not_false_eq_true, List.nodup_nil, and_true] at nd'
 obtain ⟨⟨bt, bc, br⟩, ⟨tc, tr⟩, cr⟩ := nd'
 have e0 : ρL [b, t, c, r] h.nxt 1000 = b := ρL_at (i := 0) rfl
 have e1 : ρL [b, t, c, r] h.nxt 1001 = t := ρL_at (i := 1) rfl
 have e2 : ρL [b, t, c, r] h.nxt 1002 = c := ρL_at (i := 2) rfl
 have e3 : ρL [b, t, c, r] h.nxt 1003 = r := ρL_at (i := 3) rfl
 have e4 : ∀ i, 1004 ≤ i → ρL [b, t, c, r] h.nxt i = h.nxt + (i - 1004) := fun i hi => ρL_new (bs := [b, t, c, r]) hi
 have er : ρL [b, t, c, r] h.nxt r' = rowAtR h r r' := by
  unfold rowAtR
  by_cases hr' : r' = 1003
  ·rw [if_pos hr', hr', e3]
  ·rw [if_neg hr', e4 r' (by omega)]
 have hq : rowAtR h r r' = r ∨ (h.nxt ≤ rowAtR h r r' ∧ r' = 1004 + (rowAtR h r r' - h.nxt)) := by
  unfold rowAtR
  by_cases hr' : r' = 1003
  ·exact .inl (if_pos hr')
  ·rw [if_neg hr']; right; omega
 have hq3 : r' = 1003 → rowAtR h r r' = r := fun e => if_pos e
 have hq4 : r' ≠ 1003 → rowAtR h r r' = h.nxt + (r' - 1004) := fun e => if_neg e
 generalize rowAtR h r r' = rr at *
 have hbr : b ≠ rr := by rcases hq with g | g <;> omega
 have htr : t ≠ rr := by rcases hq with g | g <;> omega
 have hcr : c ≠ rr := by rcases hq with g | g <;> omega
 refine SCall.frameL (n := n) [b, t, c, r] rfl core nd (by simp [hb, ht, hc, hr]) (fun i => CO_some i) (CO_B (by show r' < 1000 + 4 + n; omega) hr0) (fun i z o hi ho => ?_) (CO_in (by show 1003 < glim + 4; decide) (by decide)) ⟨(by show 1002 < glim + 4; decide), Ins.mono (fun i hi => Nat.lt_of_lt_of_le hi (Nat.le_add_right _ _)) ha⟩ (hv.mono fun i hi => Nat.lt_of_lt_of_le hi (by show glim ≤ glim + 4 + n; omega)) (CO_in (by show r' < 1000 + 4 + n; omega) hr0) ?_ (V.ren_id (fun i hi => ρL_low hi) hv) rfl rfl (fun i hi => ?_) (fun z hz => ?_)
 ·match i, hi with
  | 0, hi => cases hi; cases ho; simp only [Obj.ren, encD_ren, e1]; exact ob
  | 1, hi => cases hi; cases ho; exact tk
  | 2, hi => cases hi; cases ho; simp only [Obj.ren, encC_ren, e0, e3]; exact cc
  | 3, hi => cases hi; cases ho; rw [rowO_ren]; exact row
 ·show _ :: rens _ xs = _
  rw [rens_low ha]
  show V.ptr (ρL [b, t, c, r] h.nxt 1002) 0 :: xs = _
  rw [e2]
 ·have hi : i < 4 + n := hi
  match i, hi with
  | 0, _ =>
   show (hcq h b t c r d' C' rr n).ob (ρL [b, t, c, r] h.nxt 1000) = some (Obj.ren _ (.cells false (encD d' 1001)))
   rw [e0]
   show (if b = rr then _ else if b = c then _ else if b = t then _ else if b = b then _ else _) = _
   rw [if_neg hbr, if_neg bc, if_neg bt, if_pos rfl]
   simp only [Obj.ren, encD_ren, e1]
  | 1, _ =>
   show (hcq h b t c r d' C' rr n).ob (ρL [b, t, c, r] h.nxt 1001) = some (Obj.tok d'.ws.length)
   rw [e1]
   show (if t = rr then _ else if t = c then _ else if t = t then _ else _) = _
   rw [if_neg htr, if_neg tc, if_pos rfl]
  | 2, _ =>
   show (hcq h b t c r d' C' rr n).ob (ρL [b, t, c, r] h.nxt 1002) = some (Obj.ren _ (.cells false (encC 1000 r' C')))
   rw [e2]
   show (if c = rr then _ else if c = c then _ else _) = _
   rw [if_neg hcr, if_pos rfl]
   simp only [Obj.ren, encC_ren, e0, er]
  | i + 3, hi =>
   have hk : (og (CO d' C' r') (1000 + (i + 3))) = if 1000 + (i + 3) = r' then some (rowO C'.L) else none := by
    unfold CO CP
    rw [og_app, og_one]
    rw [og_cons, if_neg (by omega), og_cons, if_neg (by omega), og_cons, if_neg (by omega)]
    rfl
   show (hcq h b t c r d' C' rr n).ob (ρL [b, t, c, r] h.nxt (1000 + (i + 3))) = (og (CO d' C' r') (1000 + (i + 3))).map _
   rw [hk]
   by_cases hir : 1000 + (i + 3) = r'
   ·rw [if_pos hir, hir, er]
    show (if rr = rr then _ else _) = some (Obj.ren _ (rowO C'.L))
    rw [if_pos rfl, rowO_ren]
   ·rw [if_neg hir]
    cases i with
    | zero =>
     rw [show 1000 + (0 + 3) = 1003 from rfl, e3]
     have : r ≠ rr := by have := hq4 (by omega); omega
     show (if r = rr then _ else if r = c then _ else if r = t then _ else if r = b then _ else if r = r ∨ _ then none else _) = none
     rw [if_neg this, if_neg (fun e => cr e.symm), if_neg (fun e => tr e.symm), if_neg (fun e => br e.symm), if_pos (.inl rfl)]
    | succ j =>
     rw [e4 _ (by omega), show 1000 + (j + 1 + 3) - 1004 = j by omega]
     have h5 : h.nxt + j ≠ rr := by
      by_cases h3 : r' = 1003
      ·have := hq3 h3; omega
      ·have := hq4 h3; omega
     show (if h.nxt + j = rr then _ else if h.nxt + j = c then _ else if h.nxt + j = t then _ else if h.nxt + j = b then _ else if h.nxt + j = r ∨ (h.nxt ≤ h.nxt + j ∧ h.nxt + j < h.nxt + n) then none else _) = none
     rw [if_neg h5, if_neg (by omega), if_neg (by omega), if_neg (by omega), if_pos (.inr (by omega))]
 ·have h0 : b ≠ z := by have := hz 0 (by show 0 < 4 + n; omega); rwa [show glim + 0 = 1000 from rfl, e0] at this
  have h1 : t ≠ z := by have := hz 1 (by show 1 < 4 + n; omega); rwa [show glim + 1 = 1001 from rfl, e1] at this
  have h2 : c ≠ z := by have := hz 2 (by show 2 < 4 + n; omega); rwa [show glim + 2 = 1002 from rfl, e2] at this
  have h3 : r ≠ z := by have := hz 3 (by show 3 < 4 + n; omega); rwa [show glim + 3 = 1003 from rfl, e3] at this
  have h4 : ¬ (h.nxt ≤ z ∧ z < h.nxt + n) := fun g => by
   have := hz (4 + (z - h.nxt)) (by show _ < 4 + n; omega)
   rw [show glim + (4 + (z - h.nxt)) = 1004 + (z - h.nxt) from by show 1000 + _ = _; omega, e4 _ (by omega)] at this
   omega
  have h6 : z ≠ rr := by
   by_cases h3' : r' = 1003
   ·have := hq3 h3'; omega
   ·have := hq4 h3'; omega
  show (if z = rr then _ else if z = c then _ else if z = t then _ else if z = b then _ else if z = r ∨ _ then none else _) = _
  rw [if_neg h6, if_neg (fun e => h2 e.symm), if_neg (fun e => h1 e.symm), if_neg (fun e => h0 e.symm), if_neg (fun e => by rcases e with e | e; exact h3 e.symm; exact h4 e)]
theorem hcq_CO {d d' : Dk} {C C' : CSt} {r nx rr n : Nat} {lc : LM} (hr : 1003 ≤ r) (hrn : r < nx) (hrr : 1003 ≤ rr) (h1 : rr < nx + n) : hcq ⟨nx, og (CO d C r), lc⟩ 1000 1001 1002 r d' C' rr n = ⟨nx + n, og (CO d' C' rr), lc⟩ := by
 unfold hcq
 congr 1
 funext k
 show (if k = rr then some (rowO C'.L) else if k = 1002 then some (.cells false (encC 1000 rr C')) else if k = 1001 then some (.tok d'.ws.length) else if k = 1000 then some (.cells false (encD d' 1001)) else if k = r ∨ (nx ≤ k ∧ k < nx + n) then none else og (CO d C r) k) = og (CO d' C' rr) k
 have hk : ∀ (d : Dk) (C : CSt) (r : Nat), og (CO d C r) k = if k = 1000 then some (.cells false (encD d 1001)) else if k = 1001 then some (.tok d.ws.length) else if k = 1002 then some (.cells false (encC 1000 r C)) else if k = r then some (rowO C.L) else none := fun d C r => by
  simp only [CO, CP, List.cons_append, List.nil_append, og_cons]; rfl
 rw [hk, hk]
 by_cases k0 : k = 1000
 ·subst k0; rw [if_neg (by omega)]; rfl
 by_cases k1 : k = 1001
 ·subst k1; rw [if_neg (by omega)]; rfl
 by_cases k2 : k = 1002
 ·subst k2; rw [if_neg (by omega)]; rfl
 rw [if_neg k0, if_neg k1, if_neg k2, if_neg k0, if_neg k1, if_neg k2, if_neg k0, if_neg k1, if_neg k2]
 by_cases k3 : k = rr
 ·rw [if_pos k3, if_pos k3]
 ·rw [if_neg k3, if_neg k3]
  by_cases k4 : k = r
  ·rw [if_pos (.inl k4)]
  ·by_cases k5 : nx ≤ k ∧ k < nx + n
   ·rw [if_pos (.inr k5)]
   ·rw [if_neg (fun e => by rcases e with e | e; exact k4 e; exact k5 e), if_neg k4]
end Go.VM
end
section
/- The cache: all is laid anew when that is worth it. -/
set_option maxRecDepth 100000
set_option linter.unusedVariables false
set_option linter.unusedSimpArgs false
namespace Go.VM
open Go.RowKit
def roomC (C : CSt) : Nat := roomZ C.L (keptF C.L C.most C.bytes)
def bigC (C : CSt) : Prop := C.len > 1000 + 4 * roomC C
instance (C : CSt) : Decidable (bigC C) := inferInstanceAs (Decidable (_ > _))
def tidyP (d : Dk) (C : CSt) : Dk × CSt × Int := if bigC C then compP d C else (d, C, 0)
def tidyN (C : CSt) : Nat := if bigC C then compN C else 0
def tidyR (d : Dk) (C : CSt) : Nat := if bigC C then compR d C else 1003
theorem tidy_end {d : Dk} {C : CSt} (cf : CompFit d C) (hl : C.len ≤ 4000000000) {tm : TM} {room : Nat} (hroom : roomC C = room) (hb : room ≤ 100001400000) (t0 : tg tm 0 = some (.v (.ptr 1002 0))) (t3 : tg tm 3 = some (.v (.int .i64 (room : Int)))) {QN : S → Prop} :
  WR Go.Proofs.Try.prog [] ⟨Go.Proofs.Try.f46.ntmps, none, 46⟩ rc46_J2 (SL.toS ⟨tm, [], none, 1004, CO d C 1003, []⟩) QN (retX (RetS Go.Proofs.Try.prog Go.Proofs.Try.f46 (.int .i64 (tidyP d C).2.2) (1004 + tidyN C) (CO (tidyP d C).1 (tidyP d C).2.1 (tidyR d C)))) := by
 refine WR.weak (s := SL.toS ⟨[(0, .v (.ptr 1002 0)), (3, .v (.int .i64 (room : Int)))], [], none, 1004, CO d C 1003, []⟩) (SW.tellR (.cons t0 (.v (VLe.refl _)) (.cons t3 (.v (VLe.refl _)) .nil)) .nil) ?_
 unfold rc46_J2
 have hw : IntKind.i64.wrap (1000 + IntKind.i64.wrap (4 * (room : Int))) = ((1000 + 4 * room : Nat) : Int) := by
  rw [wrap64 (n := 4 * (room : Int)) (by omega) (by omega), wrap64 (by omega) (by omega)]; omega
 have hg : decide ((C.len : Int) > IntKind.i64.wrap (1000 + IntKind.i64.wrap (4 * (room : Int)))) = decide (bigC C) := by
  rw [hw]
  by_cases h : C.len > 1000 + 4 * room
  ·rw [decide_eq_true (show bigC C by unfold bigC; rw [hroom]; exact h), decide_eq_true (by omega)]
  ·rw [decide_eq_false (show ¬ bigC C by unfold bigC; rw [hroom]; exact h), decide_eq_false (by omega)]
 refine WR.seq (WR.seq (WR.reg (WQ.runS [] 1000 _ _ _ _ rfl (WQ.nilS ?_))))
 rw [hg]
 refine WR.cond rfl (fun h => ?_) (fun h => ?_)
 ·have h := of_decide_eq_true h
  have e1 : tidyP d C = compP d C := if_pos h
  have e2 : tidyN C = compN C := if_pos h
  have e3 : tidyR d C = compR d C := if_pos h
  rw [e1, e2, e3]
  refine WR.seq (WR.reg (WQ.runS [] 1 _ _ _ _ rfl ?_))
  refine WQ.callH rfl rfl rfl rfl rfl (comp_core cf) .base rfl (WQ.runS [] 1000 _ _ _ _ rfl (WQ.nilS ?_))
  refine WR.ret ⟨rfl, rfl, ⟨_, rfl, VLe.refl _⟩, fun b _ => rfl⟩
 ·have h := of_decide_eq_false h
  have e1 : tidyP d C = (d, C, 0) := if_neg h
  have e2 : tidyN C = 0 := if_neg h
  have e3 : tidyR d C = 1003 := if_neg h
  rw [e1, e2, e3]
  refine WR.skip ?_
  refine WR.seq (WR.reg (WQ.runS [] 1000 _ _ _ _ rfl (WQ.nilS ?_)))
  refine WR.ret ⟨rfl, rfl, ⟨_, rfl, VLe.refl _⟩, fun b _ => rfl⟩
theorem tidy_core {d : Dk} {C : CSt} (cf : CompFit d C) (hl : C.len ≤ 4000000000) :
  SCall Go.Proofs.Try.prog [] 46 [.ptr 1002 0] none ⟨1004, og (CO d C 1003), []⟩ (.ret (.int .i64 (tidyP d C).2.2)) none ⟨1004 + tidyN C, og (CO (tidyP d C).1 (tidyP d C).2.1 (tidyR d C)), []⟩ := by
 have hR : 1003 ≤ tidyR d C ∧ tidyR d C < 1004 + tidyN C := by
  unfold tidyR tidyN compR
  split
  ·split <;> omega
  ·omega
 refine cacheCall (fn := Go.Proofs.Try.f46) (by kernel_rfl) res46 (by kernel_rfl) (by kernel_rfl) (by omega) hR.1 hR.2 trivial ?_
 unfold rc46
 refine WR.seq (WR.reg (WQ.runS [] 1000 _ _ _ _ rfl (WQ.nilS ?_)))
 refine WR.seq (WR.reg (WQ.runS [] 1000 _ _ _ _ rfl (WQ.nilS ?_)))
 refine WR.seq (WR.seq (WR.dreg hmix (DW.runS [] 1000 _ _ _ _ _ _ rfl ?_)))
 refine DW.callH (by repeat (first | exact .nil | refine PendR.passM rfl ?_ | refine PendR.sameM rfl ?_ | refine PendR.lightM rfl ?_)) rfl rfl rfl rfl rfl (keptC d C 1003 1004 [] (Nat.le_refl _) cf.cf) .base rfl (DW.runS [] 1000 _ _ _ _ _ _ rfl ?_)
 refine DW.finS (by repeat (first | exact .nil | refine PendR.passM rfl ?_ | refine PendR.sameM rfl ?_ | refine PendR.lightM rfl ?_)) ?_
 generalize hidx : keptF C.L C.most C.bytes = idx at *
 have hin : ∀ i ∈ idx, i < C.L.length := fun i hi => keptF_mem (by rw [hidx]; exact hi)
 have hil : idx.length ≤ 100000 := by have h1 := keptF_len C.L C.most C.bytes; have h2 := cf.cf.n; rw [hidx] at h1; omega
 have hroom : roomC C = roomZ C.L idx := by unfold roomC; rw [hidx]
 refine WR.block (WR.loop ?_)
 by_cases hne : C.L = []
 ·have hi0 : idx = [] := by rw [← hidx, hne]; exact keptF_nil _ _
  subst hi0
  unfold rc46_L1
  refine WLr.of ?_
  refine WR.seq (WR.reg (WQ.runS [] 1000 _ _ _ _ rfl (WQ.nilS ?_)))
  refine WR.seq (WR.condF rfl (WR.exit ?_))
  exact tidy_end cf hl (room := 0) (by rw [hroom]; rfl) (by omega) rfl rfl
 ·have key := fun QN QX => tidy_loop (QN := QN) (QX := QX) d C.most C.bytes C.root C.len C.L C.last 1003 1004 (Nat.le_refl _) cf.cf.n cf.cf.sz idx hin hil idx.length 0 0 (by omega) (by omega)
  have e0 : CO d C 1003 = cpR d C.most C.bytes C.root C.len C.L.length C.last 1003 ++ [(1003, .cells true (flatZ C.L))] := by
   unfold CO CP cpR encC
   rw [clV_some hne, rowO_some hne]
  rw [← e0] at key
  have h19 : VLe (.int .i64 ((idx.map kcell).length : Int)) (.int .i64 (idx.length : Int)) := by rw [List.length_map]; exact VLe.refl _
  refine WLr.weak ?_ (key _ _ (fun tm t0 t3 hle => ?_))
  ·exact SW.tellR (.cons rfl (.v (VLe.refl _)) (.cons rfl (.v (VLe.refl _)) (.cons rfl (.v (VLe.refl _)) (.cons rfl (.v h19) (.cons rfl (.v (VLe.refl _)) .nil))))) .nil
  ·rw [Nat.zero_add, List.drop_zero] at t3 hle
   exact tidy_end cf hl hroom (by omega) t0 t3
end Go.VM
end
section
/- The cache: how much each call adds. -/
set_option maxRecDepth 100000
set_option linter.unusedVariables false
set_option linter.unusedSimpArgs false
namespace Go.VM
open Go.RowKit
structure Stp (d : Dk) (C : CSt) (d' : Dk) (C' : CSt) (x n z : Nat) : Prop where
 a0 : d'.a0.length ≤ d.a0.length + x
 a1 : d'.a1.length ≤ d.a1.length + x
 ws : d'.ws.length ≤ d.ws.length + z
 fuse : d'.fuse ≤ d.fuse
 most : C'.most = C.most
 bytes : C'.bytes = C.bytes
 len : C'.len ≤ C.len + x
 L : C'.L.length ≤ C.L.length + n
 la0 : 0 ≤ C.last → 0 ≤ C'.last
 la : 0 ≤ C.last → C'.last ≤ C.last + (z : Int)
 sz : (∀ e ∈ C.L, sizeZ e ≤ 1000) → ∀ e ∈ C'.L, sizeZ e ≤ 1000
 rt : (C.root = 0 ∨ C.root = 1) → (C'.root = 0 ∨ C'.root = 1)
theorem Stp.refl (d : Dk) (C : CSt) : Stp d C d C 0 0 0 := ⟨Nat.le_refl _, Nat.le_refl _, Nat.le_refl _, Int.le_refl _, rfl, rfl, Nat.le_refl _, Nat.le_refl _, id, fun _ => by omega, id, id⟩
theorem Stp.trans {d d' d2 : Dk} {C C' C2 : CSt} {x x' n n' z z' : Nat} (s : Stp d C d' C' x n z) (t : Stp d' C' d2 C2 x' n' z') : Stp d C d2 C2 (x + x') (n + n') (z + z') := by
 obtain ⟨a1, a2, a3, a4, a5, a6, a7, a8, a9, a10, a11, a12⟩ := s
 obtain ⟨b1, b2, b3, b4, b5, b6, b7, b8, b9, b10, b11, b12⟩ := t
 refine ⟨by omega, by omega, by omega, by omega, b5.trans a5, b6.trans a6, by omega, by omega, fun h => b9 (a9 h), fun h => ?_, fun h => b11 (a11 h), fun h => b12 (a12 h)⟩
 have := a10 h
 have := b10 (a9 h)
 push_cast
 omega
theorem Stp.mono {d d' : Dk} {C C' : CSt} {x x' n n' z z' : Nat} (s : Stp d C d' C' x n z) (hx : x ≤ x') (hn : n ≤ n') (hz : z ≤ z') : Stp d C d' C' x' n' z' := by
 obtain ⟨a1, a2, a3, a4, a5, a6, a7, a8, a9, a10, a11, a12⟩ := s
 exact ⟨by omega, by omega, by omega, by omega, a5, a6, by omega, by omega, a9, fun h => by have := a10 h; omega, a11, a12⟩
theorem write_le (d : Dk) (w : Wr) : (write d w).1.a0.length ≤ d.a0.length + w.data.length ∧ (write d w).1.a1.length ≤ d.a1.length + w.data.length ∧ (write d w).1.fuse ≤ d.fuse := by
 unfold write
 split
 ·simp
 ·split
  ·simp
  ·split
   ·simp
   ·have key : ∀ d1 : Dk, d1.fuse ≤ d.fuse → d1.a0 = d.a0 → d1.a1 = d.a1 → (done d1 w).1.a0.length ≤ d.a0.length + w.data.length ∧ (done d1 w).1.a1.length ≤ d.a1.length + w.data.length ∧ (done d1 w).1.fuse ≤ d.fuse := by
     intro d1 e2 e3 e4
     obtain ⟨g1, g2, g3, g4⟩ := done_le d1 w
     rw [e3] at g3
     rw [e4] at g4
     exact ⟨g3, g4, by omega⟩
    split
    ·exact key _ (by simp; omega) rfl rfl
    ·exact key _ (Int.le_refl _) rfl rfl
theorem write_stp (d : Dk) (C : CSt) (w : Wr) : Stp d C (write d w).1 C w.data.length 0 1 := by
 obtain ⟨g1, g2, g3⟩ := write_le d w
 exact ⟨g1, g2, write_ws d w, g3, rfl, rfl, Nat.le_add_right _ _, Nat.le_refl _, id, fun _ => by omega, id, id⟩
theorem addP_stp (d : Dk) (C : CSt) (s : List Nat) : Stp d C (addP d C s).1 (addP d C s).2.1 s.length 0 1 := by
 obtain ⟨g1, g2, g3⟩ := write_le d ⟨1, C.root, s⟩
 have g4 := write_ws d ⟨1, C.root, s⟩
 unfold addP
 dsimp only
 split
 ·exact ⟨g1, g2, g4, g3, rfl, rfl, Nat.le_refl _, Nat.le_refl _, id, fun _ => by show C.last ≤ _; omega, id, id⟩
 ·exact ⟨g1, g2, g4, g3, rfl, rfl, Nat.le_add_right _ _, Nat.le_refl _, id, fun _ => by omega, id, id⟩
theorem setMark_mem {L : List EZ} {i : Nat} {la : Int} {e : EZ} (h : e ∈ setMark L i la) : ∃ e' ∈ L, sizeZ e = sizeZ e' := by
 unfold setMark at h
 cases hi : L[i]? with
 | none => rw [hi] at h; exact ⟨e, h, rfl⟩
 | some a =>
  rw [hi] at h
  rcases List.mem_or_eq_of_mem_set h with h | h
  ·exact ⟨e, h, rfl⟩
  ·exact ⟨a, List.mem_of_getElem? hi, by rw [h]; rfl⟩
theorem setMark_len (L : List EZ) (i : Nat) (la : Int) : (setMark L i la).length = L.length := by unfold setMark; split <;> simp
theorem marksP_stp (d : Dk) (C : CSt) (kind i : Nat) : Stp d C (marksP d C kind i).1 (marksP d C kind i).2.1 5 0 1 := by
 obtain ⟨a1, a2, a3, a4, a5, a6, a7, a8, a9, a10, a11, a12⟩ := addP_stp d C (markB kind i)
 have e : (marksP d C kind i).2.1 = if (addP d C (markB kind i)).2.2 = 0 then { (addP d C (markB kind i)).2.1 with last := C.last + 1, L := setMark C.L i (C.last + 1) } else C := rfl
 have e1 : (marksP d C kind i).1 = (addP d C (markB kind i)).1 := rfl
 rw [e, e1]
 by_cases hz : (addP d C (markB kind i)).2.2 = 0
 ·rw [if_pos hz]
  exact ⟨a1, a2, a3, a4, a5, a6, a7, by show (setMark _ _ _).length ≤ _; rw [setMark_len]; exact Nat.le_refl _, fun h => by show 0 ≤ C.last + 1; omega, fun h => by show C.last + 1 ≤ _; omega, fun h e he => by
   obtain ⟨e', h1, h2⟩ := setMark_mem he
   rw [h2]; exact h _ h1, a12⟩
 ·rw [if_neg hz]
  exact ⟨a1, a2, a3, a4, rfl, rfl, Nat.le_add_right _ _, Nat.le_refl _, id, fun _ => by omega, id, id⟩
theorem putN_stp (d : Dk) (C : CSt) (x : EZ) (h : sizeZ x ≤ 1000) : Stp d C d (putN C x) 0 1 0 :=
 ⟨Nat.le_refl _, Nat.le_refl _, Nat.le_refl _, Int.le_refl _, rfl, rfl, Nat.le_refl _, by simp [putN], id, fun _ => by show C.last ≤ _; omega, fun q e he => by
  simp only [putN, List.mem_append, List.mem_singleton] at he
  rcases he with he | he
  ·exact q e he
  ·rw [he]; exact h, id⟩
theorem cstep_stp (d : Dk) (e : Int) (C : CSt) (x : EZ) (h : sizeZ x ≤ 1000) : Stp d C (cstep (d, e, C) x).1 (cstep (d, e, C) x).2.2 (wgt x) 1 2 := by
 have hel := entryB_len x.k x.v
 have hw : wgt x = (entryB x.k x.v).length + 5 := by unfold wgt; rw [hel]; omega
 have key : ∀ (d1 : Dk) (e1 : Int) (N1 : CSt), Stp d C d1 N1 (entryB x.k x.v).length 0 1 →
   Stp d C (if e1 = 0 then ((marksP d1 (putN N1 x) 2 N1.L.length).1, (marksP d1 (putN N1 x) 2 N1.L.length).2.2, (marksP d1 (putN N1 x) 2 N1.L.length).2.1) else (d1, e1, putN N1 x) : Dk × Int × CSt).1 (if e1 = 0 then ((marksP d1 (putN N1 x) 2 N1.L.length).1, (marksP d1 (putN N1 x) 2 N1.L.length).2.2, (marksP d1 (putN N1 x) 2 N1.L.length).2.1) else (d1, e1, putN N1 x) : Dk × Int × CSt).2.2 (wgt x) 1 2 := by
  intro d1 e1 N1 s
  have s2 := s.trans (putN_stp d1 N1 x h)
  split
  ·exact (s2.trans (marksP_stp d1 (putN N1 x) 2 N1.L.length)).mono (by omega) (by omega) (by omega)
  ·exact s2.mono (by omega) (by omega) (by omega)
 by_cases he : e = 0
 ·subst he
  have := key _ (addP d C (entryB x.k x.v)).2.2 _ (addP_stp d C (entryB x.k x.v))
  simpa only [cstep, if_true] using this
 ·have := key d e C ((Stp.refl d C).mono (Nat.zero_le _) (Nat.le_refl _) (Nat.zero_le _))
  simpa only [cstep, if_neg he] using this
theorem fold_stp : ∀ (xs : List EZ) (d : Dk) (e : Int) (C : CSt), (∀ x ∈ xs, sizeZ x ≤ 1000) → Stp d C (xs.foldl cstep (d, e, C)).1 (xs.foldl cstep (d, e, C)).2.2 (wgts xs) xs.length (2 * xs.length)
 | [], d, e, C, _ => Stp.refl d C
 | x :: xs, d, e, C, h => by
  have s := cstep_stp d e C x (h x (by simp))
  have t := fold_stp xs (cstep (d, e, C) x).1 (cstep (d, e, C) x).2.1 (cstep (d, e, C) x).2.2 (fun y hy => h y (by simp [hy]))
  exact (s.trans t).mono (by simp [wgts]) (by simp; omega) (by simp; omega)
theorem wgts_le : ∀ (xs : List EZ), (∀ x ∈ xs, sizeZ x ≤ 1000) → wgts xs ≤ 1014 * xs.length
 | [], _ => Nat.le_refl _
 | x :: xs, h => by
  have := wgts_le xs (fun y hy => h y (by simp [hy]))
  have h1 := h x (by simp)
  simp only [wgts, wgt, sizeZ, List.length_cons] at *
  omega
theorem pickF_mem {L : List EZ} {is : List Nat} {x : EZ} (h : x ∈ pickF L is) : x ∈ L := by
 obtain ⟨i, _, h2⟩ := List.mem_filterMap.1 h
 exact List.mem_of_getElem? h2
theorem keptLen (C : CSt) : (pickF C.L (keptF C.L C.most C.bytes).reverse).length ≤ C.L.length := by
 have h1 := pickF_len C.L (keptF C.L C.most C.bytes).reverse
 have h2 := keptF_len C.L C.most C.bytes
 rw [List.length_reverse] at h1
 omega
theorem compP_stp (d : Dk) (C : CSt) (hsz : ∀ e ∈ C.L, sizeZ e ≤ 1000) (hla : 0 ≤ C.last) : Stp d C (compP d C).1 (compP d C).2.1 (1014 * C.L.length) 0 (2 * C.L.length + 2) := by
 have hk := keptLen C
 have hs : ∀ x ∈ pickF C.L (keptF C.L C.most C.bytes).reverse, sizeZ x ≤ 1000 := fun x hx => hsz x (pickF_mem hx)
 have f0 := write_stp d (newC C) ⟨2, 1 - C.root, []⟩
 have f1 := fold_stp (pickF C.L (keptF C.L C.most C.bytes).reverse) (write d ⟨2, 1 - C.root, []⟩).1 (write d ⟨2, 1 - C.root, []⟩).2 (newC C) hs
 have hw := wgts_le _ hs
 have f2 := f0.trans f1
 have e0 : laidP d C = (pickF C.L (keptF C.L C.most C.bytes).reverse).foldl cstep ((write d ⟨2, 1 - C.root, []⟩).1, (write d ⟨2, 1 - C.root, []⟩).2, newC C) := rfl
 rw [← e0] at f2
 unfold compP
 generalize pickF C.L (keptF C.L C.most C.bytes).reverse = xs at *
 generalize laidP d C = R at *
 have hx : wgts xs ≤ 1014 * C.L.length := by have := Nat.mul_le_mul_left 1014 hk; omega
 have g1 : ∀ (d' : Dk) (z : Nat), Stp d (newC C) d' R.2.2 (0 + wgts xs) (0 + xs.length) z → z ≤ 2 * C.L.length + 2 → Stp d C d' R.2.2 (1014 * C.L.length) 0 (2 * C.L.length + 2) := by
  intro d' z ⟨a1, a2, a3, a4, a5, a6, a7, a8, a9, a10, a11, a12⟩ hz
  have a7 : R.2.2.len ≤ 0 + (0 + wgts xs) := a7
  have a8 : R.2.2.L.length ≤ 0 + (0 + xs.length) := a8
  have a9 : 0 ≤ R.2.2.last := a9 (Int.le_refl _)
  have a10 : R.2.2.last ≤ 0 + (z : Int) := a10 (Int.le_refl _)
  refine ⟨by omega, by omega, by omega, a4, a5, a6, by omega, by omega, fun _ => a9, fun _ => by omega, fun _ => a11 (fun e he => by simp [newC] at he), fun h => a12 (by show 1 - C.root = 0 ∨ 1 - C.root = 1; omega)⟩
 have g2 : ∀ (d' : Dk) (z : Nat), Stp d (newC C) d' R.2.2 (0 + wgts xs) (0 + xs.length) z → z ≤ 2 * C.L.length + 2 → Stp d C d' C (1014 * C.L.length) 0 (2 * C.L.length + 2) := by
  intro d' z ⟨a1, a2, a3, a4, a5, a6, a7, a8, a9, a10, a11, a12⟩ hz
  exact ⟨by omega, by omega, by omega, a4, rfl, rfl, Nat.le_add_right _ _, Nat.le_refl _, id, fun _ => by omega, id, id⟩
 have f3 := write_stp R.1 R.2.2 ⟨3, 1 - C.root, []⟩
 by_cases h1 : R.2.1 = 0
 ·rw [if_pos h1]
  by_cases h2 : (write R.1 ⟨3, 1 - C.root, []⟩).2 = 0
  ·show Stp d C (write R.1 _).1 (if _ then _ else _) _ _ _
   rw [if_pos h2]
   exact g1 _ (1 + 2 * xs.length + 1) ((f2.trans f3).mono (by simp) (by simp) (by omega)) (by omega)
  ·show Stp d C (write R.1 _).1 (if _ then _ else _) _ _ _
   rw [if_neg h2]
   exact g2 _ (1 + 2 * xs.length + 1) ((f2.trans f3).mono (by simp) (by simp) (by omega)) (by omega)
 ·rw [if_neg h1]
  exact g2 _ (1 + 2 * xs.length) (f2.mono (by simp) (by simp) (by omega)) (by omega)
theorem tidyP_stp (d : Dk) (C : CSt) (hsz : ∀ e ∈ C.L, sizeZ e ≤ 1000) (hla : 0 ≤ C.last) : Stp d C (tidyP d C).1 (tidyP d C).2.1 (1014 * C.L.length) 0 (2 * C.L.length + 2) := by
 unfold tidyP
 split
 ·exact compP_stp d C hsz hla
 ·exact (Stp.refl d C).mono (Nat.zero_le _) (Nat.le_refl _) (Nat.zero_le _)
structure Bud (d : Dk) (C : CSt) (x n z : Nat) : Prop where
 a0 : d.a0.length + x ≤ 690000000
 a1 : d.a1.length + x ≤ 690000000
 ws : d.ws.length + z ≤ 99000000
 fuse : d.fuse < 9223372036854775808
 len : C.len + x ≤ 690000000
 L : C.L.length + n ≤ 3310
 la0 : 0 ≤ C.last
 la : C.last + (z : Int) ≤ 690000000
 sz : ∀ e ∈ C.L, sizeZ e ≤ 1000
 b1 : -9223372036854775808 ≤ C.bytes
 b2 : C.bytes < 9223372036854775808
 rt : C.root = 0 ∨ C.root = 1
theorem Bud.stp {d d' : Dk} {C C' : CSt} {x n z x' n' z' : Nat} (b : Bud d C x n z) (s : Stp d C d' C' x' n' z') (hx : x' ≤ x := by omega) (hn : n' ≤ n := by omega) (hz : z' ≤ z := by omega) : Bud d' C' (x - x') (n - n') (z - z') := by
 obtain ⟨a1, a2, a3, a4, a5, a6, a7, a8, a9, a10, a11, a12⟩ := s
 obtain ⟨b1, b2, b3, b4, b5, b6, b7, b8, b9, b10, b11, b12⟩ := b
 have := a10 b7
 exact ⟨by omega, by omega, by omega, by omega, by omega, by omega, a9 b7, by omega, a11 b9, by rw [a6]; exact b10, by rw [a6]; exact b11, a12 b12⟩
theorem Bud.mono {d : Dk} {C : CSt} {x n z x' n' z' : Nat} (b : Bud d C x n z) (hx : x' ≤ x := by omega) (hn : n' ≤ n := by omega) (hz : z' ≤ z := by omega) : Bud d C x' n' z' := by
 obtain ⟨b1, b2, b3, b4, b5, b6, b7, b8, b9, b10, b11, b12⟩ := b
 exact ⟨by omega, by omega, by omega, by omega, by omega, by omega, b7, by omega, b9, b10, b11, b12⟩
theorem Bud.fit {d : Dk} {C : CSt} {x n z k : Nat} (b : Bud d C x n z) (hk : k ≤ 100000000 := by omega) : Fit d k :=
 ⟨by have := b.ws; omega, b.fuse, by have := b.a0; unfold lim; omega, by have := b.a1; unfold lim; omega⟩
theorem Bud.comp {d : Dk} {C : CSt} {x n z : Nat} (b : Bud d C x n z) : CompFit d C := by
 have h1 := b.L
 have h3 := keptLen C
 have h4 := wgts_le (pickF C.L (keptF C.L C.most C.bytes).reverse) (fun x hx => b.sz x (pickF_mem hx))
 have h5 := keptF_len C.L C.most C.bytes
 have h6 := b.ws
 have h7 : 1014 * (pickF C.L (keptF C.L C.most C.bytes).reverse).length ≤ 1014 * 3310 := Nat.mul_le_mul_left _ (by omega)
 exact ⟨⟨by omega, fun e he => by have := b.sz e he; omega, b.b1, b.b2⟩, b.rt, b.fit (by omega), by omega, by omega⟩
end Go.VM
end
