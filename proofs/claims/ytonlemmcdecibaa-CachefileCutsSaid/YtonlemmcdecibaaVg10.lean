/- laid for this seat: VcComp7 VcComp8 VcComp9 VtScan2 -/
import Derived.Test.YtonlemmcdecibaaVg09
import Derived.Test.YtonlemmcdecibaaVg00
section
/- The cache: laying all anew: the loop as a call; memory that is not used any more. -/
set_option maxRecDepth 100000
set_option linter.unusedVariables false
set_option linter.unusedSimpArgs false
namespace Go.VM
open Go.RowKit
def Live (gl : List Nat) (fr : Fr) (s : S) (N : Nat) : Prop := ∀ (E : Env) (F : Fx) (w0 w : World) (b : Frame) (tmps : Array Value) (df : List Deferred) (cs : List Frame), StR gl E F fr s b tmps df cs w0 w → ∃ p, E.ob N = some p
theorem ar_ptr {E : Env} {N o : Nat} {v : Value} (r : AR E (.ptr N o) v) : ∃ p, E.ob N = some p := by
 cases r; exact ⟨_, by assumption⟩
theorem ar_sl {E : Env} {N o n z : Nat} {v : Value} (h0 : 0 < n) (r : AR E (.sl N o n (.op z)) v) : ∃ p, E.ob N = some p := by
 cases r with
 | slo _ _ _ _ p c h hc hn => exact ⟨p, h⟩
 | sl0 => omega
theorem live_slot {gl : List Nat} {fr : Fr} {s : S} {d N o : Nat} (h : tg s.tm d = some (.v (.ptr N o))) : Live gl fr s N := by
 intro E F w0 w b tmps df cs st
 obtain ⟨v', _, g2⟩ := st.tr.2 d _ h
 cases g2 with
 | v _ _ r => exact ar_ptr r
theorem live_cell {gl : List Nat} {fr : Fr} {s : S} {k i N : Nat} {op : Bool} {vs : List V} {v : V} (h : Live gl fr s k) (hk : s.h.ob k = some (.cells op vs)) (hv : vs[i]? = some v) (hr : ∀ E x, AR E v x → ∃ p : Place, E.ob N = some p) : Live gl fr s N := by
 intro E F w0 w b tmps df cs st
 obtain ⟨p, hp⟩ := h E F w0 w b tmps df cs st
 obtain ⟨c, el, lo, hi, h1, h2, h3, h4, h5⟩ : CellsR E vs p w := st.mr.obj k _ p hk hp
 obtain ⟨_, v', _, r⟩ := h5 i v hv
 exact hr E v' r
theorem SW.killLive {gl : List Nat} {fr : Fr} {s : S} {N : Nat} (h : Live gl fr s N) : SW gl fr s { s with h := s.h.kill N } := by
 refine ⟨rfl, fun E F w0 w b tmps df cs st => ?_⟩
 obtain ⟨p, hp⟩ := h E F w0 w b tmps df cs st
 have x := kill_ext st.mr (.inl ⟨p, hp⟩)
 exact ⟨E, F, x, rfl, st.mono x rfl (st.mr.killed N)⟩
theorem iterK {asC bdC : Code} (ha : resC Go.Proofs.Try.prog asC = some scK) (hb : resC Go.Proofs.Try.prog bdC = some scKb) {most bytes root : Int} {len : Nat} {last : Int} (L : List EZ) (idx : List Nat) (hin : ∀ i ∈ idx, i < L.length) (hxs : ∀ x ∈ L, x.k.length ≤ 1000000 ∧ x.v.length ≤ 1000000) (hid : idx.length ≤ 100000) (d : Dk) (e : Int) (N : CSt) (hN : N.L = []) (kf : KFit d N (wgts (pickF L idx.reverse)) idx.length) :
  SCall Go.Proofs.Try.prog [] 73 [.fn (.yield 1010) [] [], .ptr 1008 0] none ⟨1011, og (preK d (ccS most bytes root len L.length last) (.cells true (flatZ L)) e N 1011 (idx.map kcell) (lpK .ready asC bdC)), []⟩ (.ret (.tup [])) none
   ⟨1012 + idx.length, og (memK ((pickF L idx.reverse).foldl cstep (d, e, N)).1 (ccS most bytes root len L.length last) (.cells true (flatZ L)) ((pickF L idx.reverse).foldl cstep (d, e, N)).2.1 ((pickF L idx.reverse).foldl cstep (d, e, N)).2.2 (1011 + idx.length) (idx.map kcell) (lpK .ready asC bdC)), []⟩ := by
 refine SCall.listedC (fn := Go.Proofs.Try.f73) (by kernel_rfl) res73 (by kernel_rfl) (by kernel_rfl) (by omega) (memK_B (by omega) (by omega)) (fun c hc => ?_) trivial ?_
 ·by_cases h9 : c = 1009
  ·subst h9; exact .inl rfl
  ·by_cases h10 : c = 1010
   ·subst h10; exact .inl rfl
   ·exact .inr fun o ho => memK_ref (nx := 1012 + idx.length) (rowC := .cells true (flatZ L)) (is := idx.map kcell) (cc := ccS most bytes root len L.length last) (by omega) (by omega) ⟨(by show 1000 < _; omega), trivial, trivial, trivial, trivial, (by show 1003 < _; omega), trivial, trivial⟩ (flatZ_in _) (kcells_in _) c o h9 h10 ho
 unfold rc73
 have hrow : rowO N.L = .tok 0 := by rw [hN]; rfl
 have e0 : ({ (SL.toS ⟨argT 0 [.fn (.yield 1010) [] [], .ptr 1008 0], [], none, 1011, preK d (ccS most bytes root len L.length last) (.cells true (flatZ L)) e N 1011 (idx.map kcell) (lpK .ready asC bdC), []⟩) with h := (SL.toS ⟨argT 0 [.fn (.yield 1010) [] [], .ptr 1008 0], [], none, 1011, preK d (ccS most bytes root len L.length last) (.cells true (flatZ L)) e N 1011 (idx.map kcell) (lpK .ready asC bdC), []⟩).h.new (.tok 0) } : S) =
   SL.toS ⟨argT 0 [.fn (.yield 1010) [] [], .ptr 1008 0], [], none, 1012, memK d (ccS most bytes root len L.length last) (.cells true (flatZ L)) e N 1011 (idx.map kcell) (lpK .ready asC bdC), []⟩ := by
  have := rowNew (p := preK d (ccS most bytes root len L.length last) (.cells true (flatZ L)) e N 1011 (idx.map kcell) (lpK .ready asC bdC)) (nx := 1011) (lc := []) (.tok 0) (preK_lt (Nat.le_refl _))
  unfold memK
  rw [hrow]
  exact congrArg (fun h : H => S.mk (argT 0 [.fn (.yield 1010) [] [], .ptr 1008 0]) [] none h) this
 refine WR.weak (SW.tok (gl := [])) ?_
 rw [e0]
 have hrow2 : og (memK d (ccS most bytes root len L.length last) (.cells true (flatZ L)) e N 1011 (idx.map kcell) (lpK .ready asC bdC)) 1008 = some (.cells false [.lst (idx.map kcell) .unk]) := rfl
 refine WR.seq (WR.reg (WQ.runS [] 1000 _ _ _ _ rfl (WQ.nilS ?_)))
 rw [show IntKind.i64.wrap (((idx.map kcell).length : Int) - 1) = (idx.length : Int) - 1 from by rw [List.length_map, wrap64 (by omega) (by omega)]]
 have ht : idx.take idx.length = idx := List.take_length
 have lp := iterK_loop (asC := asC) (bdC := bdC) ha hb (most := most) (bytes := bytes) (root := root) (len := len) (last := last) (QN := RetC Go.Proofs.Try.prog Go.Proofs.Try.f73 (.tup []) (1012 + idx.length) (memK ((pickF L idx.reverse).foldl cstep (d, e, N)).1 (ccS most bytes root len L.length last) (.cells true (flatZ L)) ((pickF L idx.reverse).foldl cstep (d, e, N)).2.1 ((pickF L idx.reverse).foldl cstep (d, e, N)).2.2 (1011 + idx.length) (idx.map kcell) (lpK .ready asC bdC))) (QX := blkX 0 (RetC Go.Proofs.Try.prog Go.Proofs.Try.f73 (.tup []) (1012 + idx.length) (memK ((pickF L idx.reverse).foldl cstep (d, e, N)).1 (ccS most bytes root len L.length last) (.cells true (flatZ L)) ((pickF L idx.reverse).foldl cstep (d, e, N)).2.1 ((pickF L idx.reverse).foldl cstep (d, e, N)).2.2 (1011 + idx.length) (idx.map kcell) (lpK .ready asC bdC))) (retX (RetC Go.Proofs.Try.prog Go.Proofs.Try.f73 (.tup []) (1012 + idx.length) (memK ((pickF L idx.reverse).foldl cstep (d, e, N)).1 (ccS most bytes root len L.length last) (.cells true (flatZ L)) ((pickF L idx.reverse).foldl cstep (d, e, N)).2.1 ((pickF L idx.reverse).foldl cstep (d, e, N)).2.2 (1011 + idx.length) (idx.map kcell) (lpK .ready asC bdC))))) L idx hin hxs hid idx.length d e N 1011 (Nat.le_refl _) (Nat.le_refl _) (by rw [ht]; exact kf) (fun tm => by
  rw [ht]
  exact ⟨rfl, _, .nil, ⟨_, rfl, VLe.refl _⟩, fun _ _ => rfl⟩)
 refine WR.block (WR.loop (WLr.weak (s := SL.toS ⟨iTmK ((idx.length : Int) - 1), [], none, 1012, memK d (ccS most bytes root len L.length last) (.cells true (flatZ L)) e N 1011 (idx.map kcell) (lpK .ready asC bdC), []⟩) ?_ lp))
 refine SW.tellR ?_ ?_
 ·repeat (first | exact .nil | refine .cons rfl (.v (VLe.refl _)) ?_ | refine .cons rfl (.l _ _ rfl) ?_ | refine .cons rfl (.v (VLe.unk _ _)) ?_)
 ·repeat (first | exact .nil | refine .cons rfl (.inl rfl) ?_)
end Go.VM
end
section
/- The cache: laying all anew. -/
set_option maxRecDepth 100000
set_option linter.unusedVariables false
set_option linter.unusedSimpArgs false
namespace Go.VM
open Go.RowKit
theorem SW.killTok {gl : List Nat} {fr : Fr} {s : S} {N n : Nat} (h : s.h.ob N = some (.tok n)) : SW gl fr s { s with h := s.h.kill N } := by
 refine ⟨rfl, fun E F w0 w b tmps df cs st => ?_⟩
 have x := kill_ext st.mr (.inr (.inl ⟨n, h⟩))
 exact ⟨E, F, x, rfl, st.mono x rfl (st.mr.killed N)⟩
theorem keptF_nil (most bytes : Int) : keptF [] most bytes = [] := by
 have h := keptF_len [] most bytes
 exact List.eq_nil_of_length_eq_zero (Nat.le_zero.1 h)
theorem iterC {asC bdC : Code} (ha : resC Go.Proofs.Try.prog asC = some scK) (hb : resC Go.Proofs.Try.prog bdC = some scKb) (C : CSt) (idx : List Nat) (hidx : idx = keptF C.L C.most C.bytes) (cf : CFit C) (d : Dk) (e : Int) (N : CSt) (hN : N.L = []) (kf : KFit d N (wgts (pickF C.L idx.reverse)) idx.length) :
  SCall Go.Proofs.Try.prog [] 73 [.fn (.yield 1010) [] [], .ptr 1008 0] none ⟨1011, og (preK d (encC 1000 1003 C) (rowO C.L) e N 1011 (idx.map kcell) (lpK .ready asC bdC)), []⟩ (.ret (.tup [])) none
   ⟨1012 + idx.length, og (memK ((pickF C.L idx.reverse).foldl cstep (d, e, N)).1 (encC 1000 1003 C) (rowO C.L) ((pickF C.L idx.reverse).foldl cstep (d, e, N)).2.1 ((pickF C.L idx.reverse).foldl cstep (d, e, N)).2.2 (1011 + idx.length) (idx.map kcell) (lpK .ready asC bdC)), []⟩ := by
 by_cases hne : C.L = []
 ·have hi0 : idx = [] := by rw [hidx, hne]; exact keptF_nil _ _
  subst hi0
  have hrow : rowO N.L = .tok 0 := by rw [hN]; rfl
  refine SCall.listedC (fn := Go.Proofs.Try.f73) (by kernel_rfl) res73 (by kernel_rfl) (by kernel_rfl) (by omega) (memK_B (by simp) (by simp)) (fun c hc => ?_) trivial ?_
  ·by_cases h9 : c = 1009
   ·subst h9; exact .inl rfl
   ·by_cases h10 : c = 1010
    ·subst h10; exact .inl rfl
    ·exact .inr fun o ho => memK_ref (nx := 1012 + ([] : List Nat).length) (rowC := rowO C.L) (is := ([] : List Nat).map kcell) (cc := encC 1000 1003 C) (by simp) (by simp) ⟨(by show 1000 < 1012; decide), trivial, trivial, trivial, trivial, clV_in _ (by show 1003 < 1012; decide), trivial, trivial⟩ (rowO_in _) (kcells_in _) c o h9 h10 ho
  unfold rc73
  have e0 : ({ (SL.toS ⟨argT 0 [.fn (.yield 1010) [] [], .ptr 1008 0], [], none, 1011, preK d (encC 1000 1003 C) (rowO C.L) e N 1011 (([] : List Nat).map kcell) (lpK .ready asC bdC), []⟩) with h := (SL.toS ⟨argT 0 [.fn (.yield 1010) [] [], .ptr 1008 0], [], none, 1011, preK d (encC 1000 1003 C) (rowO C.L) e N 1011 (([] : List Nat).map kcell) (lpK .ready asC bdC), []⟩).h.new (.tok 0) } : S) =
    SL.toS ⟨argT 0 [.fn (.yield 1010) [] [], .ptr 1008 0], [], none, 1012, memK d (encC 1000 1003 C) (rowO C.L) e N 1011 (([] : List Nat).map kcell) (lpK .ready asC bdC), []⟩ := by
   have := rowNew (p := preK d (encC 1000 1003 C) (rowO C.L) e N 1011 (([] : List Nat).map kcell) (lpK .ready asC bdC)) (nx := 1011) (lc := []) (.tok 0) (preK_lt (Nat.le_refl _))
   unfold memK
   rw [hrow]
   exact congrArg (fun h : H => S.mk (argT 0 [.fn (.yield 1010) [] [], .ptr 1008 0]) [] none h) this
  refine WR.weak (SW.tok (gl := [])) ?_
  rw [e0]
  refine WR.seq (WR.reg (WQ.runS [] 1000 _ _ _ _ rfl (WQ.nilS ?_)))
  refine WR.block (WR.loop ?_)
  unfold rc73_L1
  refine WLr.of ?_
  refine WR.seq (WR.seq (WR.reg (WQ.runS [] 1000 _ _ _ _ rfl (WQ.nilS ?_))))
  refine WR.condF rfl (WR.exit ?_)
  exact ⟨rfl, _, .nil, ⟨_, rfl, VLe.refl _⟩, fun _ _ => rfl⟩
 ·have h1 : encC 1000 1003 C = ccS C.most C.bytes C.root C.len C.L.length C.last := by simp only [encC, ccS, clV_some hne]
  have h2 : rowO C.L = .cells true (flatZ C.L) := rowO_some hne
  rw [h1, h2]
  exact iterK ha hb C.L idx (fun i hi => keptF_mem (by rw [← hidx]; exact hi)) (fun x hx => by have := cf.sz x hx; unfold sizeZ at this; omega) (by rw [hidx]; have := keptF_len C.L C.most C.bytes; have := cf.n; omega) d e N hN kf
def newC (C : CSt) : CSt := ⟨C.most, C.bytes, 1 - C.root, 0, [], 0⟩
def laidP (d : Dk) (C : CSt) : Dk × Int × CSt := (pickF C.L (keptF C.L C.most C.bytes).reverse).foldl cstep ((write d ⟨2, 1 - C.root, []⟩).1, (write d ⟨2, 1 - C.root, []⟩).2, newC C)
def compP (d : Dk) (C : CSt) : Dk × CSt × Int :=
 if (laidP d C).2.1 = 0 then
  ((write (laidP d C).1 ⟨3, 1 - C.root, []⟩).1, if (write (laidP d C).1 ⟨3, 1 - C.root, []⟩).2 = 0 then (laidP d C).2.2 else C, (write (laidP d C).1 ⟨3, 1 - C.root, []⟩).2)
 else ((laidP d C).1, C, (laidP d C).2.1)
theorem clear_call {d : Dk} {a : Int} (ft : Fit d 0) {h : H} {b t : Nat} (k : HD h b t d) : SCall Go.Proofs.Try.prog [] 49 [.ptr b 0, .int .i64 a] none h (.ret (.int .i64 (write d ⟨2, a, []⟩).2)) none (hd h b t (write d ⟨2, a, []⟩).1) :=
 disk_lift (clear_core d a ft) ⟨trivial, trivial⟩ trivial k
theorem root_call {d : Dk} {a : Int} (ft : Fit d 0) {h : H} {b t : Nat} (k : HD h b t d) : SCall Go.Proofs.Try.prog [] 51 [.ptr b 0, .int .i64 a] none h (.ret (.int .i64 (write d ⟨3, a, []⟩).2)) none (hd h b t (write d ⟨3, a, []⟩).1) :=
 disk_lift (root_core d a ft) ⟨trivial, trivial⟩ trivial k
theorem memK_hd {d d' : Dk} {cc : List V} {rowC : Obj} {e : Int} {N : CSt} {rn nx : Nat} {is : List (List V)} {lp : ALoop} {lc : LM} : hd ⟨nx, og (memK d cc rowC e N rn is lp), lc⟩ 1000 1001 d' = ⟨nx, og (memK d' cc rowC e N rn is lp), lc⟩ := by
 unfold hd
 rw [og_put, og_put]; rfl
end Go.VM
end
section
/- The cache: laying all anew: its end. -/
set_option maxRecDepth 100000
set_option linter.unusedVariables false
set_option linter.unusedSimpArgs false
namespace Go.VM
open Go.RowKit
def midA (d : Dk) (cc : List V) (e : Int) (N : CSt) (rn : Nat) (is : List (List V)) (lp : ALoop) (df : Option (List AD)) : OL :=
 [(1000, .cells false (encD d 1001)), (1001, .tok d.ws.length), (1002, .cells false cc), (1004, .cells false [.ptr 1002 0]), (1005, .cells false [.int .i64 e]), (1006, .cells false (encC 1000 rn N)), (1007, .cells false [.ptr 1006 0]), (1008, .cells false [.lst is .unk]), (1009, .dfr df), (1010, .loop lp)] ++ [(rn, rowO N.L)]
def finB (d : Dk) (cc : List V) (rowC : Obj) (e : Int) (N : CSt) (rn : Nat) (is : List (List V)) (lp : ALoop) : OL :=
 [(1000, .cells false (encD d 1001)), (1001, .tok d.ws.length), (1002, .cells false cc), (1003, rowC), (1004, .cells false [.ptr 1002 0]), (1005, .cells false [.int .i64 e]), (1006, .cells false (encC 1000 rn N)), (1007, .cells false [.ptr 1006 0]), (1008, .cells false [.lst is .unk]), (1009, .dfr none), (1010, .loop lp)] ++ [(rn, rowO N.L)]
theorem memK_kill {d : Dk} {cc : List V} {rowC : Obj} {e : Int} {N : CSt} {rn nx : Nat} {is : List (List V)} {lp : ALoop} {lc : LM} (h : 1011 ≤ rn) : H.kill ⟨nx, og (memK d cc rowC e N rn is lp), lc⟩ 1003 = ⟨nx, og (midA d cc e N rn is lp (some [])), lc⟩ := by
 simp only [H.kill]
 congr 1
 funext k
 simp only [memK, preK, midA, List.cons_append, List.nil_append, og_cons]
 by_cases h3 : k = 1003
 ·subst h3
  rw [if_pos rfl]
  repeat rw [if_neg (by omega)]
  rfl
 ·rw [if_neg h3, if_neg h3]
def outE (d : Dk) (C : CSt) (e : Int) (N : CSt) (rn : Nat) (is : List (List V)) (lp : ALoop) : OL :=
 if e = 0 then midA d (encC 1000 rn N) e N rn is lp none else finB d (encC 1000 1003 C) (rowO C.L) e N rn is lp
theorem retC_of {tm : TM} {nx : Nat} {ol ol' : OL} {e : Int} (h2 : tg tm 2 = some (.v (.int .i64 e))) (h9 : og ol 1009 = some (.dfr (some []))) (hol : ∀ b, b < nx → og ol' b = og (oset ol 1009 (.dfr none)) b) : RetC Go.Proofs.Try.prog Go.Proofs.Try.f24 (.int .i64 e) nx ol' (SL.toS ⟨tm, [.collected 1009], none, nx, ol, []⟩) := by
 refine ⟨rfl, _, .cons h9 .nil, ⟨[.int .i64 e], ?_, VLe.refl _⟩, fun b hb => ?_⟩
 ·show resV Go.Proofs.Try.prog _ tm [.tmp 2] = _
  simp only [resV, h2]
 ·rw [hol b hb]
  have : (SL.toS ⟨tm, [.collected 1009], none, nx, ol, []⟩).h.put 1009 (.dfr none) = ⟨nx, og (oset ol 1009 (.dfr none)), []⟩ := og_put ..
  rw [this]
theorem compTail {asC bdC : Code} {d : Dk} {C : CSt} {e : Int} {N : CSt} {rn nx : Nat} {is : List (List V)} {tm : TM} (h : 1011 ≤ rn) (hrn : rn < nx) (t1 : tg tm 1 = some (.v (.ptr 1004 0))) (t4 : tg tm 4 = some (.v (.ptr 1005 0))) (t5 : tg tm 5 = some (.v (.ptr 1007 0))) {QN : S → Prop} :
  WR Go.Proofs.Try.prog [] ⟨Go.Proofs.Try.f24.ntmps, none, 24⟩ rc24_J2 (SL.toS ⟨tm, [.collected 1009], none, nx, memK d (encC 1000 1003 C) (rowO C.L) e N rn is (lpK .exhausted asC bdC), []⟩) QN (retX (RetC Go.Proofs.Try.prog Go.Proofs.Try.f24 (.int .i64 e) nx (outE d C e N rn is (lpK .exhausted asC bdC)))) := by
 refine WR.weak (s := SL.toS ⟨[(1, .v (.ptr 1004 0)), (4, .v (.ptr 1005 0)), (5, .v (.ptr 1007 0))], [.collected 1009], none, nx, memK d (encC 1000 1003 C) (rowO C.L) e N rn is (lpK .exhausted asC bdC), []⟩) (SW.tellR (.cons t1 (.v (VLe.refl _)) (.cons t4 (.v (VLe.refl _)) (.cons t5 (.v (VLe.refl _)) .nil))) .nil) ?_
 unfold rc24_J2
 refine WR.seq (WR.seq (WR.reg (WQ.runS [] 1000 _ _ _ _ rfl (WQ.nilS ?_))))
 by_cases he : e = 0
 ·subst he
  rw [show decide ((0 : Int) = 0) = true from rfl]
  refine WR.condT rfl ?_
  have hkill : ∀ tm : TM, tg tm 1 = some (.v (.ptr 1004 0)) → SW [] ⟨Go.Proofs.Try.f24.ntmps, none, 24⟩ (SL.toS ⟨tm, [.collected 1009], none, nx, memK d (encC 1000 1003 C) (rowO C.L) 0 N rn is (lpK .exhausted asC bdC), []⟩) (SL.toS ⟨tm, [.collected 1009], none, nx, midA d (encC 1000 1003 C) 0 N rn is (lpK .exhausted asC bdC) (some []), []⟩) := by
   intro tm g1
   have hk := memK_kill (d := d) (cc := encC 1000 1003 C) (rowC := rowO C.L) (e := 0) (N := N) (rn := rn) (nx := nx) (is := is) (lp := lpK .exhausted asC bdC) (lc := []) h
   have e1 : SL.toS ⟨tm, [.collected 1009], none, nx, midA d (encC 1000 1003 C) 0 N rn is (lpK .exhausted asC bdC) (some []), []⟩ = { (SL.toS ⟨tm, [.collected 1009], none, nx, memK d (encC 1000 1003 C) (rowO C.L) 0 N rn is (lpK .exhausted asC bdC), []⟩) with h := (SL.toS ⟨tm, [.collected 1009], none, nx, memK d (encC 1000 1003 C) (rowO C.L) 0 N rn is (lpK .exhausted asC bdC), []⟩).h.kill 1003 } :=
    (congrArg (fun q : H => S.mk tm [.collected 1009] none q) hk).symm
   rw [e1]
   by_cases hne : C.L = []
   ·exact SW.killTok (n := 0) (show some (rowO C.L) = _ by rw [hne]; rfl)
   ·have l1 : Live [] ⟨Go.Proofs.Try.f24.ntmps, none, 24⟩ (SL.toS ⟨tm, [.collected 1009], none, nx, memK d (encC 1000 1003 C) (rowO C.L) 0 N rn is (lpK .exhausted asC bdC), []⟩) 1004 := live_slot g1
    have l2 := live_cell (i := 0) (N := 1002) l1 (show some (Obj.cells false [.ptr 1002 0]) = _ from rfl) rfl (fun E x r => ar_ptr r)
    have l3 := live_cell (i := 5) (N := 1003) l2 (show some (Obj.cells false (encC 1000 1003 C)) = _ from rfl) rfl (fun E x r => by
     rw [clV_some hne] at r
     exact ar_sl (List.length_pos_iff.2 hne) r)
    exact SW.killLive l3
  refine WR.weak (hkill _ rfl) ?_
  obtain ⟨most, bytes, root, len, L, last⟩ := N
  cases L with
  | nil =>
   refine WR.dreg hmix (DW.runS [] 1000 _ _ _ _ _ _ rfl ?_)
   refine DW.stS (by repeat (first | exact .nil | refine PendR.passM rfl ?_ | refine PendR.sameM rfl ?_ | refine PendR.lightM rfl ?_)) rfl rfl rfl rfl ?_
   refine DW.runS [] 1000 _ _ _ _ _ _ rfl ?_
   refine DW.finS (by repeat (first | exact .nil | refine PendR.passM rfl ?_ | refine PendR.sameM rfl ?_ | refine PendR.lightM rfl ?_)) ?_
   unfold rc24_J1
   refine WR.seq (WR.reg (WQ.runS [] 1000 _ _ _ _ rfl (WQ.nilS ?_)))
   refine WR.ret (retC_of rfl rfl (fun b _ => rfl))
  | cons x l =>
   refine WR.dreg hmix (DW.runS [] 1000 _ _ _ _ _ _ rfl ?_)
   refine DW.stS (by repeat (first | exact .nil | refine PendR.passM rfl ?_ | refine PendR.sameM rfl ?_ | refine PendR.lightM rfl ?_)) rfl rfl rfl rfl ?_
   refine DW.runS [] 1000 _ _ _ _ _ _ rfl ?_
   refine DW.finS (by repeat (first | exact .nil | refine PendR.passM rfl ?_ | refine PendR.sameM rfl ?_ | refine PendR.lightM rfl ?_)) ?_
   unfold rc24_J1
   refine WR.seq (WR.reg (WQ.runS [] 1000 _ _ _ _ rfl (WQ.nilS ?_)))
   refine WR.ret (retC_of rfl rfl (fun b _ => rfl))
 ·rw [show decide (e = 0) = false from decide_eq_false he]
  refine WR.condF rfl (WR.skip ?_)
  unfold rc24_J1
  refine WR.seq (WR.reg (WQ.runS [] 1000 _ _ _ _ rfl (WQ.nilS ?_)))
  refine WR.ret (retC_of rfl rfl (fun b _ => ?_))
  unfold outE
  rw [if_neg he]; rfl
end Go.VM
end
section
/- The cache's file: a round of Scan. -/
set_option maxRecDepth 100000
set_option linter.unusedVariables false
set_option linter.unusedSimpArgs false
namespace Go.VM
open Go.RowKit
def scA : RC := .reg [⟨0, 0, some (.al [.int .i64 0, .str [], .str [], .int .i64 0, .int .i64 0]), [], some 5, none⟩, ⟨0, 0, some (.st (.t 5) (.t 8) 5), [], none, none⟩]
def scB : RC := .block 1 (.seq (.seq (.reg [⟨0, 0, some (.fa (.t 5) 0), [], some 9, none⟩, ⟨0, 0, some (.ld (.t 9) none), [], some 10, none⟩, ⟨0, 0, some (.eq .int false (.t 10) (.c (.int .i64 1))), [], some 11, none⟩]) (.cond (.t 11) (.reg [⟨0, 0, some (.ld (.t 2) none), [], some 12, none⟩, ⟨0, 0, some (.fa (.t 5) 1), [], some 13, none⟩, ⟨0, 0, some (.ld (.t 13) none), [], some 14, none⟩, ⟨0, 0, some (.fa (.t 5) 2), [], some 15, none⟩, ⟨0, 0, some (.ld (.t 15) none), [], some 16, none⟩, ⟨0, 0, some (.bld [.str [], .str [], .bool false, .int .i64 0] [(0, 1), (1, 1), (2, 1), (3, 1)] [(0, .t 14), (1, .t 16)]), [], some 17, none⟩, ⟨0, 0, some (.bs 4 1 [.str [], .str [], .bool false, .int .i64 0] [(0, .t 17)]), [], some 18, none⟩, ⟨0, 0, some (.app (.t 12) (.t 18) 4 48 [.str [], .str [], .bool false, .int .i64 0]), [], some 19, none⟩, ⟨0, 0, some (.st (.t 2) (.t 19) 1), [], none, none⟩]) (.seq (.seq (.dreg [⟨0, 0, some (.fa (.t 5) 3), [5], some 20, none⟩, ⟨1, 1, some (.ld (.t 20) none), [20], some 21, none⟩, ⟨2, 0, some (.ld (.t 2) none), [2], some 22, none⟩, ⟨3, 4, some (.lenL (.t 22)), [22], some 23, none⟩, ⟨4, 15, some (.bin .geq (.t 21) (.t 23)), [21, 23], some 24, none⟩, ⟨5, 31, some (.mv (.t 24)), [24], some 25, none⟩, ⟨6, 63, some (.ld (.t 2) none), [2, 25], some 26, some (25, false)⟩, ⟨7, 63, some (.fa (.t 5) 3), [5, 25], some 27, some (25, false)⟩, ⟨8, 191, some (.ld (.t 27) none), [27, 25], some 28, some (25, false)⟩, ⟨9, 511, some (.ia (.t 26) (.t 28) 4), [26, 28, 25], some 29, some (25, false)⟩, ⟨10, 1023, some (.fa (.t 29) 2), [29, 25], some 30, some (25, false)⟩, ⟨11, 2047, some (.ld (.t 30) none), [30, 25], some 31, some (25, false)⟩, ⟨12, 63, some (.fa (.t 5) 0), [5, 25], some 32, some (25, false)⟩, ⟨13, 4159, some (.ld (.t 32) none), [32, 25], some 33, some (25, false)⟩, ⟨14, 12351, some (.eq .int false (.t 33) (.c (.int .i64 3))), [33, 25], some 34, some (25, false)⟩, ⟨15, 32767, some (.eq .bool true (.t 31) (.t 34)), [31, 34, 25], some 35, some (25, false)⟩, ⟨16, 65535, some (.pick (.t 25) (.c (.bool true)) (.t 35)), [25, 35], some 36, none⟩] [] [20, 21, 22, 23, 24, 25, 26, 27, 28, 29, 30, 31, 32, 33, 34, 35, 36]) (.cond (.t 36) (.exit 0) .skip)) (.seq (.reg [⟨0, 0, some (.ld (.t 4) none), [], some 37, none⟩, ⟨0, 0, some (.bin .add (.t 37) (.c (.int .i64 1))), [], some 38, none⟩, ⟨0, 0, some (.st (.t 4) (.t 38) 1), [], none, none⟩]) (.dreg [⟨0, 0, some (.ld (.t 2) none), [2], some 39, none⟩, ⟨1, 0, some (.fa (.t 5) 3), [5], some 40, none⟩, ⟨2, 2, some (.ld (.t 40) none), [40], some 41, none⟩, ⟨3, 0, some (.ld (.t 2) none), [2], some 42, none⟩, ⟨4, 0, some (.fa (.t 5) 3), [5], some 43, none⟩, ⟨5, 16, some (.ld (.t 43) none), [43], some 44, none⟩, ⟨6, 0, some (.ld (.t 4) none), [4], some 45, none⟩, ⟨7, 7, some (.ia (.t 39) (.t 41) 4), [39, 41], some 46, none⟩, ⟨8, 135, some (.fa (.t 46) 2), [46], some 47, none⟩] [(⟨9, 391, some (.st (.t 47) (.c (.bool true)) 1), [47], none, none⟩, [⟨10, 1023, some (.ia (.t 42) (.t 44) 4), [42, 44], some 48, none⟩, ⟨11, 2047, some (.fa (.t 48) 3), [48], some 49, none⟩]), (⟨12, 4095, some (.st (.t 49) (.t 45) 1), [49, 45], none, none⟩, [])] [39, 40, 41, 42, 43, 44, 45, 46, 47, 48, 49]))))) (.reg [⟨0, 0, some (.fa (.t 5) 4), [], some 50, none⟩, ⟨0, 0, some (.ld (.t 50) none), [], some 51, none⟩, ⟨0, 0, some (.st (.t 3) (.t 51) 1), [], none, none⟩]))
structure Ent where
 k : List Nat
 v : List Nat
 live : Bool
 last : Nat
def encE (e : Ent) : List V := [.str e.k, .str e.v, .bool e.live, .int .i64 e.last]
def flat (l : List Ent) : List V := (l.map encE).flatten
theorem flat_len4 (l : List Ent) : (flat l).length = l.length * 4 := by
 unfold flat
 rw [flat_len (sz := 4) (by intro e he; obtain ⟨x, _, rfl⟩ := List.mem_map.1 he; rfl), List.length_map]
theorem flat_in {D : Nat → Prop} (l : List Ent) : Ins D (flat l) := by
 induction l with
 | nil => trivial
 | cons e l ih => exact ⟨trivial, trivial, trivial, trivial, ih⟩
theorem flat_snoc (l : List Ent) (e : Ent) : flat (l ++ [e]) = flat l ++ encE e := by simp [flat]
structure Rec where
 kind : Nat
 k : List Nat
 v : List Nat
 n : Nat
 e : Nat
def encR (x : Rec) : List V := [.int .i64 x.kind, .str x.k, .str x.v, .int .i64 x.n, .int .i64 x.e]
structure Sc where
 l : List Ent
 good : Nat
 last : Nat
def addF (s : Sc) (x : Rec) : Option Sc :=
 if x.kind = 1 then some ⟨s.l ++ [⟨x.k, x.v, false, 0⟩], x.e, s.last⟩
 else match s.l[x.n]? with
  | none => none
  | some e => if e.live = decide (x.kind = 3) then some ⟨s.l.set x.n { e with live := true, last := s.last + 1 }, x.e, s.last + 1⟩ else none
def tm12 : TM := [(2, .v (.ptr 1000 0)), (3, .v (.ptr 1001 0)), (4, .v (.ptr 1002 0))]
noncomputable def lpS (st : LoopState) (j : Option Code) (asC bdC : Code) : ALoop := ⟨st, j, 12, false, tm12, Go.Proofs.Try.f12.ntmps, [8], asC, bdC⟩
def mem (lv : V) (good last : Nat) (b : List Nat) (lp : ALoop) (a : Nat) (w : Bool) (row : OL) : OL :=
 (1000, .cells false [lv]) :: (1001, .cells false [.int .i64 good]) :: (1002, .cells false [.int .i64 last]) :: (1003, .cells false [.str b]) :: (1004, .dfr (some [])) :: (1005, .loop lp) :: (1006, .cells false (rdV b a w)) :: row
inductive RowR : List Ent → Nat → V → OL → Prop where
 | nil {nx : Nat} (h : 1007 ≤ nx) : RowR [] nx (.lst [] (.ex 0)) []
 | row {e : Ent} {l : List Ent} {N nx : Nat} (h : 1007 ≤ N) (hn : N < nx) : RowR (e :: l) nx (.sl N 0 (l.length + 1) (.op 4)) [(N, .cells true (flat (e :: l)))]
theorem RowR.nx {l : List Ent} {nx : Nat} {lv : V} {row : OL} (r : RowR l nx lv row) : 1007 ≤ nx := by
 cases r <;> omega
theorem RowR.lvIn {l : List Ent} {nx : Nat} {lv : V} {row : OL} (r : RowR l nx lv row) : lv.In (· < nx) := by
 cases r with
 | nil => trivial
 | row h hn => exact hn
theorem RowR.rowIn {l : List Ent} {nx : Nat} {lv : V} {row : OL} (r : RowR l nx lv row) : olIn (· < nx) row := by
 cases r with
 | nil => trivial
 | row h hn => exact ⟨flat_in _, trivial⟩
theorem RowR.rowB {l : List Ent} {nx : Nat} {lv : V} {row : OL} (r : RowR l nx lv row) : olB nx row = true := by
 cases r with
 | nil => rfl
 | row h hn => simp [olB, hn]
theorem mem_B {lv : V} {good last : Nat} {b : List Nat} {lp : ALoop} {a : Nat} {w : Bool} {row : OL} {nx : Nat} (h : 1007 ≤ nx) (hr : olB nx row = true) : olB nx (mem lv good last b lp a w row) = true := by
 have e : ∀ k, k < 1007 → Nat.blt k nx = true := fun k hk => by rw [Nat.blt_eq]; omega
 simp only [mem, olB, e 1000 (by omega), e 1001 (by omega), e 1002 (by omega), e 1003 (by omega), e 1004 (by omega), e 1005 (by omega), e 1006 (by omega), hr, Bool.and_self]
theorem og_nil (k : Nat) : og [] k = none := rfl
theorem mem_new {lv : V} {good last : Nat} {b : List Nat} {lp : ALoop} {a : Nat} {w : Bool} {nx : Nat} {lc : LM} (o : Obj) (h : 1007 ≤ nx) :
  H.new ⟨nx, og (mem lv good last b lp a w []), lc⟩ o = ⟨nx + 1, og (mem lv good last b lp a w [(nx, o)]), lc⟩ := by
 simp only [H.new, mem]
 congr 1
 funext k
 simp only [og_cons, og_nil]
 by_cases e : k = nx
 ·subst e
  simp only [if_true]
  repeat rw [if_neg (by omega)]
 ·simp only [if_neg e]
theorem mem_kill {lv : V} {good last : Nat} {b : List Nat} {lp : ALoop} {a : Nat} {w : Bool} {nx N : Nat} {lc : LM} (o : Obj) (h : 1007 ≤ N) :
  H.kill ⟨nx, og (mem lv good last b lp a w [(N, o)]), lc⟩ N = ⟨nx, og (mem lv good last b lp a w []), lc⟩ := by
 simp only [H.kill, mem]
 congr 1
 funext k
 simp only [og_cons, og_nil]
 by_cases e : k = N
 ·subst e
  simp only [if_true]
  repeat rw [if_neg (by omega)]
 ·simp only [if_neg e]
theorem mem_row {lv : V} {good last : Nat} {b : List Nat} {lp : ALoop} {a : Nat} {w : Bool} {N : Nat} (o : Obj) (h : 1007 ≤ N) :
  og (mem lv good last b lp a w [(N, o)]) N = some o := by
 simp only [mem, og_cons, og_nil]
 repeat rw [if_neg (by omega)]
 rw [if_pos trivial]
theorem mem_lp {lv : V} {good last : Nat} {b : List Nat} {lp lp' : ALoop} {a : Nat} {w : Bool} {row : OL} {nx : Nat} {lc : LM} :
  H.put ⟨nx, og (mem lv good last b lp a w row), lc⟩ 1005 (.loop lp') = ⟨nx, og (mem lv good last b lp' a w row), lc⟩ := by
 rw [og_put]; rfl
theorem loop_refLt {N : Nat} {l : ALoop} (h : ∀ t v, tg l.tmps t = some v → ∃ x, v = .v x ∧ x.In (· < N)) : ORefLt N (.loop l) := by
 intro E p w ⟨L, h1, h2, h3, h4, h5, h6, h7, h8⟩
 refine ⟨L, h1, h2, h3, h4, h5, h6, h7, h8.1, fun t v hv => ?_⟩
 obtain ⟨x, rfl, hx⟩ := h t v hv
 obtain ⟨x', a1, a2⟩ := h8.2 t _ hv
 cases a2 with
 | v _ _ a3 => exact ⟨x', a1, .v _ _ (hx.refLt E x' a3)⟩
theorem hin_of {lv lv' : V} {good good' last last' : Nat} {b : List Nat} {lp lp' : ALoop} {a : Nat} {w : Bool} {row row' : OL} {nx' : Nat} (hn : 1007 ≤ nx') (hlv : lv'.In (· < nx')) (hrow : olIn (· < nx') row') (hlp : lp' = lp ∨ lp'.tmps = tm12) :
  ∀ c, c < nx' → (og (mem lv' good' last' b lp' a w row') c = og (mem lv good last b lp a w row) c ∨ ∀ o, og (mem lv' good' last' b lp' a w row') c = some o → ORefLt nx' o) := by
 intro c hc
 by_cases h4 : c = 1004
 ·subst h4; exact .inl rfl
 by_cases h5 : c = 1005
 ·subst h5
  rcases hlp with rfl | h
  ·exact .inl rfl
  ·refine .inr fun o ho => ?_
   cases ho
   refine loop_refLt (fun t v hv => ?_)
   rw [h] at hv
   have := tg_mem hv
   simp only [tm12, List.mem_cons, List.not_mem_nil, or_false, Prod.mk.injEq] at this
   rcases this with ⟨_, rfl⟩ | ⟨_, rfl⟩ | ⟨_, rfl⟩
   ·exact ⟨_, rfl, show 1000 < nx' by omega⟩
   ·exact ⟨_, rfl, show 1001 < nx' by omega⟩
   ·exact ⟨_, rfl, show 1002 < nx' by omega⟩
 ·refine .inr fun o ho => ?_
  simp only [mem, og_cons] at ho
  split at ho
  ·cases ho; exact Obj.In.refLt (o := .cells false _) ⟨hlv, trivial⟩
  split at ho
  ·cases ho; exact Obj.In.refLt (o := .cells false _) ⟨trivial, trivial⟩
  split at ho
  ·cases ho; exact Obj.In.refLt (o := .cells false _) ⟨trivial, trivial⟩
  split at ho
  ·cases ho; exact Obj.In.refLt (o := .cells false _) ⟨trivial, trivial⟩
  split at ho
  ·cases ho; exact Obj.In.refLt (o := .cells false _) ⟨trivial, trivial, trivial, trivial⟩
  exact (olIn_get hrow c o ho).refLt
def tmB (x : Rec) : TM := [(5, .l 5 0), (8, .v (.agg (encR x))), (2, .v (.ptr 1000 0)), (3, .v (.ptr 1001 0)), (4, .v (.ptr 1002 0))]
theorem round_of {asC bdC : Code} (ha : resC Go.Proofs.Try.prog asC = some scA) (hb : resC Go.Proofs.Try.prog bdC = some scB) {x : Rec} {lv : V} {good last : Nat} {b : List Nat} {a : Nat} {w : Bool} {row ol' : OL} {nx nx' : Nat} {j : Option Code} (hn : nx ≤ nx') (hol : olB nx' ol' = true)
  (hin : ∀ c, c < nx' → (og ol' c = og (mem lv good last b (lpS .ready none asC bdC) a w row) c ∨ ∀ o, og ol' c = some o → ORefLt nx' o))
  (hw : WR Go.Proofs.Try.prog [] ⟨Go.Proofs.Try.f12.ntmps, some 1005, 12⟩ scB (SL.toS ⟨tmB x, [], none, nx, mem lv good last b (lpS .busy none asC bdC) a w row, [(5, encR x)]⟩) (fun s2 => j = none ∧ RndE 1005 (lpS .ready none asC bdC) none nx' ol' s2) (fun y s2 => y ≠ .norm ∧ rndJ y = some j ∧ RndE 1005 (lpS .ready none asC bdC) j nx' ol' s2)) :
  SRound Go.Proofs.Try.prog [] 1005 [.agg (encR x)] ⟨nx, og (mem lv good last b (lpS .ready none asC bdC) a w row), []⟩ (.ret (.bool j.isNone)) ⟨nx', og ol', []⟩ := by
 refine SRound.listed (tm1 := []) (nx1 := 0) (ol1 := []) (lc1 := []) ha hb rfl rfl rfl hn hol hin ?_
 unfold scA
 repeat (first | refine WR.seq ?_ | refine WR.block ?_ | refine WR.scope ?_ | refine WR.skip ?_ | refine WR.exit ?_ | refine WR.condT rfl ?_ | refine WR.condF rfl ?_ | refine WR.reg (WQ.runS [] 1000 _ _ _ _ rfl ?_) | refine WQ.nilS ?_ | refine WR.dreg hmix (DW.runS [] 1000 _ _ _ _ _ _ rfl ?_))
 refine ⟨rfl, rfl, rfl, ?_⟩
 have e := mem_lp (lv := lv) (good := good) (last := last) (b := b) (lp := lpS .ready none asC bdC) (lp' := lpS .busy none asC bdC) (a := a) (w := w) (row := row) (nx := nx) (lc := [(5, encR x)])
 have e2 : ∀ h, h = (⟨nx, og (mem lv good last b (lpS .busy none asC bdC) a w row), [(5, encR x)]⟩ : H) → (S.mk (tmB x) [] none h) = SL.toS ⟨tmB x, [], none, nx, mem lv good last b (lpS .busy none asC bdC) a w row, [(5, encR x)]⟩ := by rintro _ rfl; rfl
 have e3 := e2 _ e
 refine Eq.mp ?_ hw
 exact congrArg (fun s => WR Go.Proofs.Try.prog [] ⟨Go.Proofs.Try.f12.ntmps, some 1005, 12⟩ scB s _ _) e3.symm
theorem rnd_end {asC bdC : Code} {lv : V} {good last : Nat} {b : List Nat} {a : Nat} {w : Bool} {row : OL} {nx' : Nat} {tm : TM} {lc : LM} (j : Option Code) : RndE 1005 (lpS .ready none asC bdC) j nx' (mem lv good last b (lpS (if j.isNone then .ready else .done) j asC bdC) a w row) (SL.toS ⟨tm, [], none, nx', mem lv good last b (lpS .busy none asC bdC) a w row, lc⟩) := by
 refine ⟨rfl, rfl, fun c _ => ?_⟩
 have e := mem_lp (lv := lv) (good := good) (last := last) (b := b) (lp := lpS .busy none asC bdC) (lp' := lpS (if j.isNone then .ready else .done) j asC bdC) (a := a) (w := w) (row := row) (nx := nx') (lc := lc)
 exact (congrArg (fun h : H => h.ob c) e).symm
theorem app0R {nt : Nat} {tm : TM} {x y : RX} {sz bytes n2 : Nat} {z : List V} {fs : List (List V)} {fl : List V} {c : LC} {lc : LM} {lv : V} {good last : Nat} {b : List Nat} {lp : ALoop} {a : Nat} {w : Bool} {nx : Nat} (hnx : 1007 ≤ nx) (hx : rv [] tm x = some (.lst [] (.ex 0))) (hy : rv [] tm y = some (.lst fs c)) (hz : ∀ e ∈ fs, e.length = sz) (h0 : 0 < fs.length) (hlim : bytes * fs.length ≤ lim) (hn2 : fs.length = n2) (hfl : fs.flatten = fl) :
  DoesR Go.Proofs.Try.prog [] nt tm ⟨nx, og (mem lv good last b lp a w []), lc⟩ (some (.app x y sz bytes z)) (.v (.sl nx 0 n2 (.op sz))) ⟨nx + 1, og (mem lv good last b lp a w [(nx, .cells true fl)]), lc⟩ := by
 subst hn2; subst hfl
 intro o hro
 refine ⟨?_, nd_of hro rfl⟩
 have := app_own0 (P := Go.Proofs.Try.prog) (gl := []) (nt := nt) (tm := tm) (h := ⟨nx, og (mem lv good last b lp a w []), lc⟩) hro hx (.lst fs c hy hz) h0 hlim
 rw [mem_new _ hnx] at this
 exact this
theorem app1R {nt : Nat} {tm : TM} {x y : RX} {sz bytes n n2 N : Nat} {opn : Bool} {z cs : List V} {fs : List (List V)} {fl : List V} {c : LC} {lc : LM} {lv : V} {good last : Nat} {b : List Nat} {lp : ALoop} {a : Nat} {w : Bool} {nx : Nat} (hN : 1007 ≤ N) (hnx : N < nx) (hx : rv [] tm x = some (.sl N 0 n (.op sz))) (hlen : cs.length = n * sz) (hn0 : 0 < n) (hy : rv [] tm y = some (.lst fs c)) (hz : ∀ e ∈ fs, e.length = sz) (h0 : 0 < fs.length) (hlim : bytes * (n + fs.length) ≤ lim) (hn2 : n + fs.length = n2) (hfl : cs ++ fs.flatten = fl) :
  DoesR Go.Proofs.Try.prog [] nt tm ⟨nx, og (mem lv good last b lp a w [(N, .cells opn cs)]), lc⟩ (some (.app x y sz bytes z)) (.v (.sl nx 0 n2 (.op sz))) ⟨nx + 1, og (mem lv good last b lp a w [(nx, .cells true fl)]), lc⟩ := by
 subst hn2; subst hfl
 intro o hro
 refine ⟨?_, nd_of hro rfl⟩
 have := app_own (P := Go.Proofs.Try.prog) (gl := []) (nt := nt) (tm := tm) (h := ⟨nx, og (mem lv good last b lp a w [(N, .cells opn cs)]), lc⟩) hro hx (mem_row _ hN) (by show 1000 ≤ N; omega) hlen hn0 (.lst fs c hy hz) h0 hlim
 rw [mem_kill _ hN, mem_new _ (by omega)] at this
 exact this
theorem round_entry {asC bdC : Code} (ha : resC Go.Proofs.Try.prog asC = some scA) (hb : resC Go.Proofs.Try.prog bdC = some scB) (s : Sc) (x : Rec) (hk : x.kind = 1) (hl : s.l.length ≤ 80000000) {lv : V} {row : OL} {nx : Nat} (r : RowR s.l nx lv row) (b : List Nat) (a : Nat) (w : Bool) :
  SRound Go.Proofs.Try.prog [] 1005 [.agg (encR x)] ⟨nx, og (mem lv s.good s.last b (lpS .ready none asC bdC) a w row), []⟩ (.ret (.bool true)) ⟨nx + 1, og (mem (.sl nx 0 (s.l.length + 1) (.op 4)) x.e s.last b (lpS .ready none asC bdC) a w [(nx, .cells true (flat (s.l ++ [⟨x.k, x.v, false, 0⟩])))]), []⟩ := by
 obtain ⟨l, good, last⟩ := s
 obtain ⟨kind, k, v, n, e⟩ := x
 simp only at hk hl r ⊢
 subst hk
 have hnx := r.nx
 cases r with
 | nil h =>
  have r' : RowR ([] ++ [(⟨k, v, false, 0⟩ : Ent)]) (nx + 1) (.sl nx 0 1 (.op 4)) [(nx, .cells true (flat [(⟨k, v, false, 0⟩ : Ent)]))] := .row (e := ⟨k, v, false, 0⟩) (l := []) h (Nat.lt_succ_self _)
  refine round_of (j := none) ha hb (Nat.le_succ _) (mem_B (by omega) r'.rowB) (hin_of (by omega) r'.lvIn r'.rowIn (.inl rfl)) ?_
  unfold scB
  repeat (first | refine WR.seq ?_ | refine WR.block ?_ | refine WR.scope ?_ | refine WR.skip ?_ | refine WR.exit ?_ | refine WR.condT rfl ?_ | refine WR.condF rfl ?_ | refine WR.reg (WQ.runS [] 1000 _ _ _ _ rfl ?_) | refine WQ.nilS ?_ | refine WR.dreg hmix (DW.runS [] 1000 _ _ _ _ _ _ rfl ?_))
  refine WQ.doesS rfl (app0R h rfl rfl (fun e he => by simp at he; subst he; rfl) (by simp) (by simp [lim]) rfl rfl) rfl ?_
  refine WQ.runS [] 1000 _ _ _ _ rfl (WQ.nilS ?_)
  repeat (first | refine WR.seq ?_ | refine WR.block ?_ | refine WR.scope ?_ | refine WR.skip ?_ | refine WR.exit ?_ | refine WR.condT rfl ?_ | refine WR.condF rfl ?_ | refine WR.reg (WQ.runS [] 1000 _ _ _ _ rfl ?_) | refine WQ.nilS ?_ | refine WR.dreg hmix (DW.runS [] 1000 _ _ _ _ _ _ rfl ?_))
  exact ⟨rfl, rnd_end none⟩
 | row h hn =>
  rename_i e0 l N
  have r' : RowR (e0 :: (l ++ [(⟨k, v, false, 0⟩ : Ent)])) (nx + 1) (.sl nx 0 ((l ++ [(⟨k, v, false, 0⟩ : Ent)]).length + 1) (.op 4)) [(nx, .cells true (flat (e0 :: (l ++ [(⟨k, v, false, 0⟩ : Ent)]))))] := .row (by omega) (Nat.lt_succ_self _)
  rw [List.length_append] at r'
  refine round_of (j := none) ha hb (Nat.le_succ _) (mem_B (by omega) r'.rowB) (hin_of (by omega) r'.lvIn r'.rowIn (.inl rfl)) ?_
  unfold scB
  repeat (first | refine WR.seq ?_ | refine WR.block ?_ | refine WR.scope ?_ | refine WR.skip ?_ | refine WR.exit ?_ | refine WR.condT rfl ?_ | refine WR.condF rfl ?_ | refine WR.reg (WQ.runS [] 1000 _ _ _ _ rfl ?_) | refine WQ.nilS ?_ | refine WR.dreg hmix (DW.runS [] 1000 _ _ _ _ _ _ rfl ?_))
  refine WQ.doesS rfl (app1R (fs := [encE ⟨k, v, false, 0⟩]) (n2 := (e0 :: l).length + 1) (fl := flat (e0 :: (l ++ [(⟨k, v, false, 0⟩ : Ent)]))) h hn rfl (by rw [flat_len4]; rfl) (by omega) rfl (fun e he => by simp at he; subst he; rfl) (by simp) ?_ (by simp) ?_) rfl ?_
  ·simp [lim] at hl ⊢; omega
  ·rw [← List.cons_append, flat_snoc]; simp
  refine WQ.runS [] 1000 _ _ _ _ rfl (WQ.nilS ?_)
  repeat (first | refine WR.seq ?_ | refine WR.block ?_ | refine WR.scope ?_ | refine WR.skip ?_ | refine WR.exit ?_ | refine WR.condT rfl ?_ | refine WR.condF rfl ?_ | refine WR.reg (WQ.runS [] 1000 _ _ _ _ rfl ?_) | refine WQ.nilS ?_ | refine WR.dreg hmix (DW.runS [] 1000 _ _ _ _ _ _ rfl ?_))
  exact ⟨rfl, rnd_end none⟩
theorem flat_cons (e : Ent) (l : List Ent) : flat (e :: l) = [.str e.k, .str e.v, .bool e.live, .int .i64 e.last] ++ flat l := rfl
theorem flat_get2 : ∀ (l : List Ent) (n : Nat) (e : Ent), l[n]? = some e → (flat l)[n * 4 + 2]? = some (.bool e.live)
 | [], n, e, h => by simp at h
 | a :: l, 0, e, h => by simp at h; subst h; rfl
 | a :: l, n + 1, e, h => by
  rw [flat_cons, List.getElem?_append_right (by simp; omega)]
  have := flat_get2 l n e (by simpa using h)
  rw [← this]; congr 1; simp; omega
theorem flat_set2 (q : Bool) : ∀ (l : List Ent) (n : Nat) (e : Ent), l[n]? = some e → (flat l).set (n * 4 + 2) (.bool q) = flat (l.set n { e with live := q })
 | [], n, e, h => by simp at h
 | a :: l, 0, e, h => by simp at h; subst h; rfl
 | a :: l, n + 1, e, h => by
  rw [List.set_cons_succ, flat_cons, flat_cons, ← flat_set2 q l n e (by simpa using h), show (n + 1) * 4 + 2 = (n * 4 + 2) + 4 by omega]
  rfl
theorem flat_set3 (q : Nat) : ∀ (l : List Ent) (n : Nat) (e : Ent), l[n]? = some e → (flat l).set (n * 4 + 3) (.int .i64 q) = flat (l.set n { e with last := q })
 | [], n, e, h => by simp at h
 | a :: l, 0, e, h => by simp at h; subst h; rfl
 | a :: l, n + 1, e, h => by
  rw [List.set_cons_succ, flat_cons, flat_cons, ← flat_set3 q l n e (by simpa using h), show (n + 1) * 4 + 3 = (n * 4 + 3) + 4 by omega]
  rfl
theorem ia_sl {nt : Nat} {tm : TM} {h : H} {x i : RX} {k : IntKind} {n sz b o len : Nat} {c : Cp} (hx : rv [] tm x = some (.sl b o len c)) (hi : rv [] tm i = some (.int k n)) (hl : n < len) :
  LightR Go.Proofs.Try.prog [] nt tm h (some (.ia x i sz)) (.v (.ptr b (o + n * sz))) := by
 refine lightX_sound ?_
 simp only [lightX, rl, hx, hi, Option.bind_some, asIdx]
 have : ¬ ((n : Int) < 0) := by omega
 simp [this, hl]
theorem ld_row {nt : Nat} {tm : TM} {x : RX} {lv v : V} {good last : Nat} {b : List Nat} {lp : ALoop} {a : Nat} {w opn : Bool} {N o nx : Nat} {cs : List V} {lc : LM} (hN : 1007 ≤ N) (hx : rvt [] tm x = some (.v (.ptr N o))) (hc : cs[o]? = some v) :
  LightR Go.Proofs.Try.prog [] nt tm ⟨nx, og (mem lv good last b lp a w [(N, .cells opn cs)]), lc⟩ (some (.ld x none)) (.v v) := by
 refine lightX_sound ?_
 simp only [lightX, rl, hx, ldA, mem_row _ hN, partC, hc]
 rfl
theorem mem_oset {lv : V} {good last : Nat} {b : List Nat} {lp : ALoop} {a : Nat} {w : Bool} {N : Nat} (x o : Obj) (h : 1007 ≤ N) :
  osetO (mem lv good last b lp a w [(N, x)]) N o = some (mem lv good last b lp a w [(N, o)]) := by
 have e : ∀ k, k < 1007 → Nat.beq k N = false := fun k hk => by
  cases hb : Nat.beq k N with
  | false => rfl
  | true => exact absurd (Nat.eq_of_beq_eq_true hb) (by omega)
 simp only [mem, osetO, e 1000 (by omega), e 1001 (by omega), e 1002 (by omega), e 1003 (by omega), e 1004 (by omega), e 1005 (by omega), e 1006 (by omega), Nat.beq_refl]
theorem st_row {tm : TM} {x y : RX} {lv v u : V} {good last : Nat} {b : List Nat} {lp : ALoop} {a : Nat} {w opn : Bool} {N o : Nat} {cs cs' : List V} {lc : LM} (hN : 1007 ≤ N) (hx : rvt [] tm x = some (.v (.ptr N o))) (hy : rv [] tm y = some v) (hv : cellO v = some [u]) (ho : o < cs.length) (hcs : cs.set o u = cs') :
  rasC [] tm (mem lv good last b lp a w [(N, .cells opn cs)]) lc (.st x y 1) = some (mem lv good last b lp a w [(N, .cells opn cs')], lc) := by
 subst hcs
 have hg : Nat.ble glim N = true := Nat.ble_eq.mpr (by show 1000 ≤ N; omega)
 simp only [rasC, hx, hy, hv, mem_row _ hN, hg, List.length_singleton, Nat.beq_refl, putC_one ho, mem_oset _ _ hN]
theorem round_stop {asC bdC : Code} (ha : resC Go.Proofs.Try.prog asC = some scA) (hb : resC Go.Proofs.Try.prog bdC = some scB) (s : Sc) (x : Rec) (hx : addF s x = none) (hn : x.n ≤ 4294967295) {lv : V} {row : OL} {nx : Nat} (r : RowR s.l nx lv row) (b : List Nat) (a : Nat) (w : Bool) :
  SRound Go.Proofs.Try.prog [] 1005 [.agg (encR x)] ⟨nx, og (mem lv s.good s.last b (lpS .ready none asC bdC) a w row), []⟩ (.ret (.bool false)) ⟨nx, og (mem lv s.good s.last b (lpS .done (some (.exit 0)) asC bdC) a w row), []⟩ := by
 obtain ⟨l, good, last⟩ := s
 obtain ⟨kind, k, v, n, e⟩ := x
 simp only [addF] at hx
 have hk : ¬ kind = 1 := by intro h; rw [if_pos h] at hx; cases hx
 rw [if_neg hk] at hx
 simp only at hn r ⊢
 have hnx := r.nx
 refine round_of (j := some (.exit 0)) ha hb (Nat.le_refl _) (mem_B (by omega) r.rowB) (hin_of (by omega) r.lvIn r.rowIn (.inr rfl)) ?_
 unfold scB
 refine WR.block (WR.seq (WR.seq (WR.reg (WQ.runS [] 1000 _ _ _ _ rfl (WQ.nilS ?_)))))
 rw [show decide ((kind : Int) = 1) = false from decide_eq_false (by omega)]
 refine WR.condF rfl ?_
 cases r with
 | nil h =>
  refine WR.seq (WR.seq (WR.dreg hmix (DW.runS [] 6 _ _ _ _ _ _ rfl ?_)))
  refine DW.guard 25 rfl (fun hb => ?_) (fun hb => absurd (of_decide_eq_false hb) (by simp))
  rw [hb]
  refine DW.runS [] 1000 _ _ _ _ _ _ rfl ?_
  refine DW.finS (by repeat (first | exact .nil | refine PendR.passM rfl ?_ | refine PendR.sameM rfl ?_ | refine PendR.lightM rfl ?_)) ?_
  repeat (first | refine WR.seq ?_ | refine WR.block ?_ | refine WR.scope ?_ | refine WR.skip ?_ | refine WR.exit ?_ | refine WR.condT rfl ?_ | refine WR.condF rfl ?_ | refine WR.reg (WQ.runS [] 1000 _ _ _ _ rfl ?_) | refine WQ.nilS ?_ | refine WR.dreg hmix (DW.runS [] 1000 _ _ _ _ _ _ rfl ?_))
  exact ⟨(by simp), rfl, rnd_end (some (.exit 0))⟩
 | row h hn2 =>
  rename_i e0 l N
  refine WR.seq (WR.seq (WR.dreg hmix (DW.runS [] 6 _ _ _ _ _ _ rfl ?_)))
  refine DW.guard 25 rfl (fun hb => ?_) (fun hb => ?_)
  ·rw [hb]
   refine DW.runS [] 1000 _ _ _ _ _ _ rfl ?_
   refine DW.finS (by repeat (first | exact .nil | refine PendR.passM rfl ?_ | refine PendR.sameM rfl ?_ | refine PendR.lightM rfl ?_)) ?_
   repeat (first | refine WR.seq ?_ | refine WR.block ?_ | refine WR.scope ?_ | refine WR.skip ?_ | refine WR.exit ?_ | refine WR.condT rfl ?_ | refine WR.condF rfl ?_ | refine WR.reg (WQ.runS [] 1000 _ _ _ _ rfl ?_) | refine WQ.nilS ?_ | refine WR.dreg hmix (DW.runS [] 1000 _ _ _ _ _ _ rfl ?_))
   exact ⟨(by simp), rfl, rnd_end (some (.exit 0))⟩
  ·rw [hb]
   have hlt : n < l.length + 1 := by have := of_decide_eq_false hb; simp only at this; omega
   obtain ⟨e1, he1⟩ : ∃ e1, (e0 :: l)[n]? = some e1 := ⟨_, List.getElem?_eq_getElem (by simpa using hlt)⟩
   rw [he1] at hx
   simp only at hx
   have hlive : (e1.live == decide (kind = 3)) = false := by
    cases hq : (e1.live == decide (kind = 3)) with
    | false => rfl
    | true => rw [if_pos (by simpa using hq)] at hx; cases hx
   refine DW.runS [] 3 _ _ _ _ _ _ rfl ?_
   refine DW.pureS rfl (fun h => ia_sl rfl rfl hlt) rfl (DW.runS [] 1 _ _ _ _ _ _ rfl ?_)
   refine DW.lightS rfl (ld_row h rfl (v := .bool e1.live) (by rw [Nat.zero_add]; exact flat_get2 _ _ _ he1)) rfl (DW.runS [] 1000 _ _ _ _ _ _ rfl ?_)
   rw [show (!(e1.live == decide ((kind : Int) = 3))) = true from by rw [show decide ((kind : Int) = 3) = decide (kind = 3) from by simp only [decide_eq_decide]; omega, hlive]; rfl]
   refine DW.finS (by repeat (first | exact .nil | refine PendR.passM rfl ?_ | refine PendR.sameM rfl ?_ | refine PendR.lightM rfl ?_)) ?_
   repeat (first | refine WR.seq ?_ | refine WR.block ?_ | refine WR.scope ?_ | refine WR.skip ?_ | refine WR.exit ?_ | refine WR.condT rfl ?_ | refine WR.condF rfl ?_ | refine WR.reg (WQ.runS [] 1000 _ _ _ _ rfl ?_) | refine WQ.nilS ?_ | refine WR.dreg hmix (DW.runS [] 1000 _ _ _ _ _ _ rfl ?_))
   exact ⟨(by simp), rfl, rnd_end (some (.exit 0))⟩
theorem RowR.set {l : List Ent} {nx : Nat} {lv : V} {row : OL} (r : RowR l nx lv row) (n : Nat) (e1 e2 : Ent) (h : l[n]? = some e1) : ∃ N, 1007 ≤ N ∧ lv = .sl N 0 l.length (.op 4) ∧ row = [(N, .cells true (flat l))] ∧ RowR (l.set n e2) nx lv [(N, .cells true (flat (l.set n e2)))] := by
 cases r with
 | nil => simp at h
 | row h1 h2 =>
  rename_i e l N
  refine ⟨N, h1, rfl, rfl, ?_⟩
  cases n with
  | zero => exact .row h1 h2
  | succ n =>
   have : RowR (e :: l.set n e2) nx (.sl N 0 ((l.set n e2).length + 1) (.op 4)) [(N, .cells true (flat (e :: l.set n e2)))] := .row h1 h2
   rw [List.length_set] at this
   exact this
theorem round_mark {asC bdC : Code} (ha : resC Go.Proofs.Try.prog asC = some scA) (hb : resC Go.Proofs.Try.prog bdC = some scB) (s : Sc) (x : Rec) (e1 : Ent) (hk : x.kind ≠ 1) (he1 : s.l[x.n]? = some e1) (hlive : e1.live = decide (x.kind = 3)) (hlast : s.last ≤ 700000000) {lv : V} {row : OL} {nx : Nat} (r : RowR s.l nx lv row) (b : List Nat) (a : Nat) (w : Bool) :
  ∃ N, lv = .sl N 0 s.l.length (.op 4) ∧ SRound Go.Proofs.Try.prog [] 1005 [.agg (encR x)] ⟨nx, og (mem lv s.good s.last b (lpS .ready none asC bdC) a w row), []⟩ (.ret (.bool true)) ⟨nx, og (mem lv x.e (s.last + 1) b (lpS .ready none asC bdC) a w [(N, .cells true (flat (s.l.set x.n { e1 with live := true, last := s.last + 1 })))]), []⟩ := by
 obtain ⟨l, good, last⟩ := s
 obtain ⟨kind, k, v, n, e⟩ := x
 simp only at hk he1 hlive hlast r ⊢
 have hnx := r.nx
 obtain ⟨N, hN, rfl, rfl, r'⟩ := r.set n e1 { e1 with live := true, last := last + 1 } he1
 refine ⟨_, rfl, ?_⟩
 have hlt : n < l.length := (List.getElem?_eq_some_iff.1 he1).1
 refine round_of (j := none) ha hb (Nat.le_refl _) (mem_B (by omega) r'.rowB) (hin_of (by omega) r'.lvIn r'.rowIn (.inl rfl)) ?_
 unfold scB
 refine WR.block (WR.seq (WR.seq (WR.reg (WQ.runS [] 1000 _ _ _ _ rfl (WQ.nilS ?_)))))
 rw [show decide ((kind : Int) = 1) = false from decide_eq_false (by omega)]
 refine WR.condF rfl ?_
 refine WR.seq (WR.seq (WR.dreg hmix (DW.runS [] 6 _ _ _ _ _ _ rfl ?_)))
 refine DW.guard 25 rfl (fun hb => absurd (of_decide_eq_true hb) (by simp only; omega)) (fun hb => ?_)
 rw [hb]
 refine DW.runS [] 3 _ _ _ _ _ _ rfl ?_
 refine DW.pureS rfl (fun h => ia_sl rfl rfl hlt) rfl (DW.runS [] 1 _ _ _ _ _ _ rfl ?_)
 refine DW.lightS rfl (ld_row hN rfl (v := .bool e1.live) (by rw [Nat.zero_add]; exact flat_get2 _ _ _ he1)) rfl (DW.runS [] 1000 _ _ _ _ _ _ rfl ?_)
 rw [show (!(e1.live == decide ((kind : Int) = 3))) = false from by rw [show decide ((kind : Int) = 3) = decide (kind = 3) from by simp only [decide_eq_decide]; omega, hlive]; simp]
 refine DW.finS (by repeat (first | exact .nil | refine PendR.passM rfl ?_ | refine PendR.sameM rfl ?_ | refine PendR.lightM rfl ?_)) ?_
 refine WR.condF rfl (WR.skip ?_)
 refine WR.seq (WR.reg (WQ.runS [] 1000 _ _ _ _ rfl (WQ.nilS ?_)))
 rw [show IntKind.i64.wrap ((last : Int) + 1) = ((last + 1 : Nat) : Int) from by rw [wrap64 (by omega) (by omega)]; rfl]
 refine WR.dreg hmix (DW.runS [] 7 _ _ _ _ _ _ rfl ?_)
 refine DW.pureS rfl (fun h => ia_sl rfl rfl hlt) rfl (DW.runS [] 1 _ _ _ _ _ _ rfl ?_)
 have hlen : ∀ m : List Ent, m.length = l.length → n * 4 + 3 < (flat m).length := fun m hm => by rw [flat_len4, hm]; omega
 have hs2 : (l.set n { e1 with live := true })[n]? = some { e1 with live := true } := by rw [List.getElem?_set]; simp [hlt]
 refine DW.stS (by repeat (first | exact .nil | refine PendR.passM rfl ?_ | refine PendR.sameM rfl ?_ | refine PendR.lightM rfl ?_)) rfl rfl (st_row (cs' := flat (l.set n { e1 with live := true })) hN rfl rfl rfl (by rw [Nat.zero_add]; have := hlen l rfl; simp only; omega) (by rw [Nat.zero_add]; exact flat_set2 true l n e1 he1)) rfl ?_
 refine DW.pureS rfl (fun h => ia_sl rfl rfl hlt) rfl (DW.runS [] 1 _ _ _ _ _ _ rfl ?_)
 refine DW.stS (by repeat (first | exact .nil | refine PendR.passM rfl ?_ | refine PendR.sameM rfl ?_ | refine PendR.lightM rfl ?_)) rfl rfl (st_row (cs' := flat (l.set n { e1 with live := true, last := last + 1 })) hN rfl rfl rfl (by rw [Nat.zero_add]; have := hlen (l.set n { e1 with live := true }) (by simp); simp only; omega) (by rw [Nat.zero_add]; have := flat_set3 (last + 1) _ n _ hs2; rw [List.set_set] at this; exact this)) rfl ?_
 refine DW.runS [] 1000 _ _ _ _ _ _ rfl ?_
 refine DW.finS (by repeat (first | exact .nil | refine PendR.passM rfl ?_ | refine PendR.sameM rfl ?_ | refine PendR.lightM rfl ?_)) ?_
 repeat (first | refine WR.seq ?_ | refine WR.block ?_ | refine WR.scope ?_ | refine WR.skip ?_ | refine WR.exit ?_ | refine WR.condT rfl ?_ | refine WR.condF rfl ?_ | refine WR.reg (WQ.runS [] 1000 _ _ _ _ rfl ?_) | refine WQ.nilS ?_ | refine WR.dreg hmix (DW.runS [] 1000 _ _ _ _ _ _ rfl ?_))
 exact ⟨rfl, rnd_end none⟩
def lvF : List Ent → V
 | [] => .lst [] (.ex 0)
 | _ :: l => .sl (1007 + l.length) 0 (l.length + 1) (.op 4)
def rowF : List Ent → OL
 | [] => []
 | e :: l => [(1007 + l.length, .cells true (flat (e :: l)))]
def nxF (l : List Ent) : Nat := 1007 + l.length
theorem rowR_F (l : List Ent) : RowR l (nxF l) (lvF l) (rowF l) := by
 cases l with
 | nil => exact .nil (Nat.le_refl _)
 | cons e l => exact .row (by omega) (by simp only [nxF, List.length_cons]; omega)
noncomputable def memF (s : Sc) (b : List Nat) (lp : ALoop) (a : Nat) (w : Bool) : OL := mem (lvF s.l) s.good s.last b lp a w (rowF s.l)
theorem round_some {asC bdC : Code} (ha : resC Go.Proofs.Try.prog asC = some scA) (hb : resC Go.Proofs.Try.prog bdC = some scB) (s s' : Sc) (x : Rec) (h : addF s x = some s') (hl : s.l.length ≤ 80000000) (hlast : s.last ≤ 700000000) (b : List Nat) (a : Nat) (w : Bool) :
  SRound Go.Proofs.Try.prog [] 1005 [.agg (encR x)] ⟨nxF s.l, og (memF s b (lpS .ready none asC bdC) a w), []⟩ (.ret (.bool true)) ⟨nxF s'.l, og (memF s' b (lpS .ready none asC bdC) a w), []⟩ := by
 unfold addF at h
 split at h
 ·rename_i hk
  cases h
  have := round_entry ha hb s x hk hl (rowR_F s.l) b a w
  have e1 : lvF (s.l ++ [⟨x.k, x.v, false, 0⟩]) = .sl (nxF s.l) 0 (s.l.length + 1) (.op 4) := by
   cases hq : s.l with
   | nil => rfl
   | cons e l => simp [lvF, nxF]
  have e2 : rowF (s.l ++ [⟨x.k, x.v, false, 0⟩]) = [(nxF s.l, .cells true (flat (s.l ++ [⟨x.k, x.v, false, 0⟩])))] := by
   cases hq : s.l with
   | nil => rfl
   | cons e l => simp [rowF, nxF]
  have e3 : nxF (s.l ++ [⟨x.k, x.v, false, 0⟩]) = nxF s.l + 1 := by simp [nxF]; omega
  simp only [memF, e1, e2, e3]
  exact this
 ·rename_i hk
  split at h
  ·cases h
  ·rename_i e1 he1
   split at h
   ·rename_i hlive
    cases h
    obtain ⟨N, hN, sr⟩ := round_mark ha hb s x e1 hk he1 hlive hlast (rowR_F s.l) b a w
    have hset : ∀ e2 : Ent, lvF (s.l.set x.n e2) = lvF s.l ∧ rowF (s.l.set x.n e2) = [(N, .cells true (flat (s.l.set x.n e2)))] := by
     intro e2
     cases hq : s.l with
     | nil => rw [hq] at he1; simp at he1
     | cons e l =>
      rw [hq] at hN
      simp only [lvF, V.sl.injEq] at hN
      cases hn : x.n with
      | zero => simp [lvF, rowF, hN.1]
      | succ n => simp [lvF, rowF, hN.1]
    have e3 : nxF (s.l.set x.n { e1 with live := true, last := s.last + 1 }) = nxF s.l := by simp [nxF]
    simp only [memF, (hset _).1, (hset _).2, e3]
    exact sr
   ·cases h
theorem round_none {asC bdC : Code} (ha : resC Go.Proofs.Try.prog asC = some scA) (hb : resC Go.Proofs.Try.prog bdC = some scB) (s : Sc) (x : Rec) (h : addF s x = none) (hn : x.n ≤ 4294967295) (b : List Nat) (a : Nat) (w : Bool) :
  SRound Go.Proofs.Try.prog [] 1005 [.agg (encR x)] ⟨nxF s.l, og (memF s b (lpS .ready none asC bdC) a w), []⟩ (.ret (.bool false)) ⟨nxF s.l, og (memF s b (lpS .done (some (.exit 0)) asC bdC) a w), []⟩ :=
 round_stop ha hb s x h hn (rowR_F s.l) b a w
end Go.VM
end
