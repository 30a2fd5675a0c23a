/- laid for this seat: AmStep AmExec AmHeavy AmSeq AmStepR AmLoop AmLeave -/
import Derived.Test.YthacfmmgcbjagaaGreatDoorAmB
import Derived.Recover
import Derived.Defers
section
/- The abstract machine: the model's own steps of a frame. -/
set_option linter.unusedVariables false
set_option linter.unusedSimpArgs false
namespace Go.AM
noncomputable section
open Go.RowKit
variable {P : Program}
def mkF (b : Frame) (tmps : Array Value) (todo : List Item) (df : List Deferred) : Frame :=
 { fn := b.fn, tmps, todo, defers := df, mode := .run, kind := b.kind, roundOf := b.roundOf }
def putA (tmps : Array Value) : Option Nat → Value → Array Value
 | none, _ => tmps
 | some d, v => tmps.setIfInBounds d v
theorem mkF_eval (b : Frame) (tmps : Array Value) (todo : List Item) (df : List Deferred) : (mkF b tmps todo df).eval = evT tmps := by
 funext x; cases x <;> rfl
section
variable {b : Frame} {tmps : Array Value} {df : List Deferred} {k : List Item} {cs : List Frame} {w : World} {ops : Array Oper}
theorem st_skip : step P (lone (mkF b tmps (.code .skip :: k) df) cs w) = .next (lone (mkF b tmps k df) cs w) :=
 step_lone_go (by simp [stepG, stepG.exec, mkF])
theorem st_label {l : Nat} : step P (lone (mkF b tmps (.code (.label l) :: k) df) cs w) = .next (lone (mkF b tmps k df) cs w) :=
 step_lone_go (by simp [stepG, stepG.exec, mkF])
theorem st_inBlock {id : Nat} : step P (lone (mkF b tmps (.inBlock id :: k) df) cs w) = .next (lone (mkF b tmps k df) cs w) :=
 step_lone_go (by simp [stepG, stepG.exec, mkF])
theorem st_inScope {c : Code} : step P (lone (mkF b tmps (.inScope c :: k) df) cs w) = .next (lone (mkF b tmps k df) cs w) :=
 step_lone_go (by simp [stepG, stepG.exec, mkF])
theorem st_seq {x y : Code} : step P (lone (mkF b tmps (.code (.seq x y) :: k) df) cs w) = .next (lone (mkF b tmps (.code x :: .code y :: k) df) cs w) :=
 step_lone_go (by simp [stepG, stepG.exec, mkF])
theorem st_block {id : Nat} {c : Code} : step P (lone (mkF b tmps (.code (.block id c) :: k) df) cs w) = .next (lone (mkF b tmps (.code c :: .inBlock id :: k) df) cs w) :=
 step_lone_go (by simp [stepG, stepG.exec, mkF])
theorem st_scope {c : Code} : step P (lone (mkF b tmps (.code (.scope c) :: k) df) cs w) = .next (lone (mkF b tmps (.code c :: .inScope c :: k) df) cs w) :=
 step_lone_go (by simp [stepG, stepG.exec, mkF])
theorem st_loop {c : Code} : step P (lone (mkF b tmps (.code (.loop c) :: k) df) cs w) = .next (lone (mkF b tmps (.code c :: .inLoop c :: k) df) cs w) :=
 step_lone_go (by simp [stepG, stepG.exec, mkF])
theorem st_inLoop {c : Code} : step P (lone (mkF b tmps (.inLoop c :: k) df) cs w) = .next (lone (mkF b tmps (.code c :: .inLoop c :: k) df) cs w) :=
 step_lone_go (by simp [stepG, stepG.exec, mkF])
theorem st_cond {x : Operand} {c d : Code} {t : Bool} (h : evT tmps x = .bool t) :
  step P (lone (mkF b tmps (.code (.cond x c d) :: k) df) cs w) = .next (lone (mkF b tmps (.code (if t then c else d) :: k) df) cs w) :=
 step_lone_go (by
  have := congrFun (mkF_eval b tmps (.code (.cond x c d) :: k) df) x
  simp only [mkF] at this
  simp [stepG, stepG.exec, mkF, this, h])
theorem st_exit {id : Nat} {k' : List Item} (h : exitTo id k = some k') :
  step P (lone (mkF b tmps (.code (.exit id) :: k) df) cs w) = .next (lone (mkF b tmps k' df) cs w) :=
 step_lone_go (by simp [stepG, stepG.exec, mkF, h])
theorem st_region {id : Nat} : step P (lone (mkF b tmps (.code (.region id ops false) :: k) df) cs w) = .next (lone (mkF b tmps (.inRegion ops (List.range ops.size) :: k) df) cs w) :=
 step_lone_go (by simp [stepG, stepG.exec, mkF])
theorem st_draw {id : Nat} : step P (lone (mkF b tmps (.code (.region id ops true) :: k) df) cs w) =
  .next (lone (mkF b tmps (.inRegion ops (Region.schedule (P.follows .mixedOrders) ops (w.tape w.drawn (.order b.fn id))) :: k) df) cs { w with drawn := w.drawn + 1 }) :=
 step_lone_go (by simp [stepG, stepG.exec, mkF, choose, Sem.run, Question.forced, Question.cut])
theorem st_end : step P (lone (mkF b tmps (.inRegion ops [] :: k) df) cs w) = .next (lone (mkF b tmps k df) cs w) :=
 step_lone_go (by simp [stepG, stepG.exec, mkF])
theorem finish_mkF (i : Nat) (rest : List Nat) (v : Value) : (mkF b tmps (.inRegion ops (i :: rest) :: k) df).finish v = mkF b (putA tmps ((ops[i]?).bind (·.dst)) v) (.inRegion ops rest :: k) df := by
 cases h : (ops[i]?).bind (·.dst) <;> simp [Frame.finish, mkF, putA, h]
theorem raise_mkF (todo : List Item) (ch : List PanicEntry) : (mkF b tmps todo df).raise ch = { mkF b tmps todo df with mode := .panicking ch } := rfl
theorem st_op_skip {i : Nat} {rest : List Nat} {o : Oper} (ho : ops[i]? = some o) (h : Region.wanted o (yielded ops tmps) = false) :
  step P (lone (mkF b tmps (.inRegion ops (i :: rest) :: k) df) cs w) = .next (lone (mkF b (putA tmps o.dst undef) (.inRegion ops rest :: k) df) cs w) := by
 have := finish_mkF (b := b) (tmps := tmps) (ops := ops) (k := k) (df := df) i rest undef
 rw [ho] at this
 simp only [Option.bind_some] at this
 rw [← this]
 exact step_lone_go (by simp only [mkF] at *; simp [stepG, stepG.exec, ho, h])
theorem stepG_opF {i : Nat} {rest : List Nat} {o : Oper} (ho : ops[i]? = some o) (hw : Region.wanted o (yielded ops tmps) = true) (hd : b.roundOf = none ∨ ∀ c, o.op ≠ .defer c) :
  stepG P true { frame := mkF b tmps (.inRegion ops (i :: rest) :: k) df, callers := cs, status := .running, dying := none } w =
   stepG.apply P true (mkF b tmps (.inRegion ops (i :: rest) :: k) df) cs none (execOp (evT tmps) o) w := by
 have he := mkF_eval b tmps (.inRegion ops (i :: rest) :: k) df
 simp only [mkF] at he
 rcases hd with hd | hd
 ·rw [hd] at he
  simp [stepG, stepG.exec, stepG.oper, Frame.oper?, mkF, ho, hw, he, hd]
 ·have : ∀ (r : Option Nat), (match r, o.op with
   | some l, .defer c => stepG.apply P true (mkF b tmps (.inRegion ops (i :: rest) :: k) df) cs none (do Instr.deferInRound l (← resolve (evT tmps) c o.type); pure .skip) w
   | _, _ => stepG.apply P true (mkF b tmps (.inRegion ops (i :: rest) :: k) df) cs none (execOp (evT tmps) o) w) = stepG.apply P true (mkF b tmps (.inRegion ops (i :: rest) :: k) df) cs none (execOp (evT tmps) o) w := by
   intro r
   cases r with
   | none => rfl
   | some l =>
    cases hop : o.op <;> first | rfl | exact absurd hop (hd _)
  have := this b.roundOf
  simp only [mkF] at this
  simp [stepG, stepG.exec, stepG.oper, Frame.oper?, mkF, ho, hw, he]
  exact this
theorem st_val {i : Nat} {rest : List Nat} {o : Oper} {v : Value} {w' : World} (ho : ops[i]? = some o) (hw : Region.wanted o (yielded ops tmps) = true) (hd : b.roundOf = none ∨ ∀ c, o.op ≠ .defer c)
  (hr : (execOp (evT tmps) o).run P w = .ok (.value v) w') :
  step P (lone (mkF b tmps (.inRegion ops (i :: rest) :: k) df) cs w) = .next (lone (mkF b (putA tmps o.dst v) (.inRegion ops rest :: k) df) cs w') := by
 have := finish_mkF (b := b) (tmps := tmps) (ops := ops) (k := k) (df := df) i rest v
 rw [ho] at this
 simp only [Option.bind_some] at this
 rw [← this]
 exact step_lone_go (by rw [stepG_opF ho hw hd]; simp [stepG.apply, hr, mkF])
theorem st_skipv {i : Nat} {rest : List Nat} {o : Oper} {w' : World} (ho : ops[i]? = some o) (hw : Region.wanted o (yielded ops tmps) = true) (hd : b.roundOf = none ∨ ∀ c, o.op ≠ .defer c)
  (hr : (execOp (evT tmps) o).run P w = .ok .skip w') :
  step P (lone (mkF b tmps (.inRegion ops (i :: rest) :: k) df) cs w) = .next (lone (mkF b (putA tmps o.dst undef) (.inRegion ops rest :: k) df) cs w') := by
 have := finish_mkF (b := b) (tmps := tmps) (ops := ops) (k := k) (df := df) i rest undef
 rw [ho] at this
 simp only [Option.bind_some] at this
 rw [← this]
 exact step_lone_go (by rw [stepG_opF ho hw hd]; simp [stepG.apply, hr, mkF])
theorem st_pan {i : Nat} {rest : List Nat} {o : Oper} {v : Value} {w' : World} (ho : ops[i]? = some o) (hw : Region.wanted o (yielded ops tmps) = true) (hd : b.roundOf = none ∨ ∀ c, o.op ≠ .defer c)
  (hr : (execOp (evT tmps) o).run P w = .halt (.panic v) w') :
  step P (lone (mkF b tmps (.inRegion ops (i :: rest) :: k) df) cs w) = .next (lone { mkF b tmps (.inRegion ops (i :: rest) :: k) df with mode := .panicking [{ v, recovered := false }] } cs w') := by
 rw [← raise_mkF]
 exact step_lone_go (by rw [stepG_opF ho hw hd]; simp [stepG.apply, hr, mkF])
theorem st_enter {i : Nat} {rest : List Nat} {o : Oper} {f : FuncId} {args : Array Value} {w' : World} (ho : ops[i]? = some o) (hw : Region.wanted o (yielded ops tmps) = true) (hd : b.roundOf = none ∨ ∀ c, o.op ≠ .defer c)
  (hr : (execOp (evT tmps) o).run P w = .ok (.enter f args) w') :
  step P (lone (mkF b tmps (.inRegion ops (i :: rest) :: k) df) cs w) = .next (lone (Frame.enter P f args .normal) (mkF b tmps (.inRegion ops (i :: rest) :: k) df :: cs) w') :=
 step_lone_go (by rw [stepG_opF ho hw hd]; simp [stepG.apply, hr, mkF])
theorem st_round {i : Nat} {rest : List Nat} {o : Oper} {l : Nat} {f : FuncId} {ts : Array Value} {as bd : Code} {w' : World} (ho : ops[i]? = some o) (hw : Region.wanted o (yielded ops tmps) = true) (hd : b.roundOf = none ∨ ∀ c, o.op ≠ .defer c)
  (hr : (execOp (evT tmps) o).run P w = .ok (.round l f ts as bd) w') :
  step P (lone (mkF b tmps (.inRegion ops (i :: rest) :: k) df) cs w) = .next (lone (Frame.round l f ts as bd .normal) (mkF b tmps (.inRegion ops (i :: rest) :: k) df :: cs) w') :=
 step_lone_go (by rw [stepG_opF ho hw hd]; simp [stepG.apply, hr, mkF])
theorem st_defer {i : Nat} {rest : List Nat} {o : Oper} {d : Deferred} {w' : World} (ho : ops[i]? = some o) (hw : Region.wanted o (yielded ops tmps) = true) (hd : b.roundOf = none)
  (hr : (execOp (evT tmps) o).run P w = .ok (.defer d) w') :
  step P (lone (mkF b tmps (.inRegion ops (i :: rest) :: k) df) cs w) = .next (lone (mkF b (putA tmps o.dst undef) (.inRegion ops rest :: k) (d :: df)) cs w') := by
 have := finish_mkF (b := b) (tmps := tmps) (ops := ops) (k := k) (df := d :: df) i rest undef
 rw [ho] at this
 simp only [Option.bind_some] at this
 rw [← this]
 exact step_lone_go (by rw [stepG_opF ho hw (.inl hd)]; simp [stepG.apply, hr, mkF])
theorem st_recover {i : Nat} {rest : List Nat} {o : Oper} {w' : World} (ho : ops[i]? = some o) (hw : Region.wanted o (yielded ops tmps) = true) (hd : b.roundOf = none)
  (hr : (execOp (evT tmps) o).run P w = .ok .recover w') :
  step P (lone (mkF b tmps (.inRegion ops (i :: rest) :: k) df) cs w) =
   match tryRecover (mkF b tmps (.inRegion ops (i :: rest) :: k) df) cs with
   | some (v, cs') => .next (lone (mkF b (putA tmps o.dst v) (.inRegion ops rest :: k) df) cs' w')
   | none => .next (lone (mkF b (putA tmps o.dst .nilIface) (.inRegion ops rest :: k) df) cs w') := by
 have h1 := fun v => finish_mkF (b := b) (tmps := tmps) (ops := ops) (k := k) (df := df) i rest v
 rw [ho] at h1
 simp only [Option.bind_some] at h1
 split
 ·rename_i v cs' htr
  rw [← h1]
  refine step_lone_go ?_
  rw [stepG_opF ho hw (.inl hd)]
  simp only [mkF] at htr
  simp [stepG.apply, hr, mkF, hd]
  rw [hd] at htr
  simp [htr]
 ·rename_i htr
  rw [← h1]
  refine step_lone_go ?_
  rw [stepG_opF ho hw (.inl hd)]
  simp only [mkF] at htr
  simp [stepG.apply, hr, mkF, hd]
  rw [hd] at htr
  simp [htr]
end
end
end Go.AM
end
section
/- The abstract machine: what is claimed of a run, and single operations. -/
set_option linter.unusedVariables false
set_option linter.unusedSimpArgs false
namespace Go.AM
noncomputable section
open Go.RowKit
inductive PER (E : Env) : PE → PanicEntry → Prop where
 | mk (v : V) (v' : Value) (r : Bool) (h : AR E v v') : PER E ⟨v, r⟩ { v := v', recovered := r }
inductive ModeR (E : Env) : AMode → FrameMode → Prop where
 | ret : ModeR E .ret .returning
 | pan (ch : List PE) (ch' : List PanicEntry) (h : All₂ (PER E) ch ch') : ModeR E (.pan ch) (.panicking ch')
theorem PER.mono {E E' : Env} (h : E.le E') {a : PE} {b : PanicEntry} (r : PER E a b) : PER E' a b := by cases r with | mk v v' r hr => exact .mk v v' r (hr.mono h)
theorem ModeR.mono {E E' : Env} (h : E.le E') {a : AMode} {b : FrameMode} (r : ModeR E a b) : ModeR E' a b := by
 cases r with
 | ret => exact .ret
 | pan ch ch' hr => exact .pan ch ch' (hr.mono fun _ _ => PER.mono h)
def UK (E : Env) (u : Option AMode) (kind : CallKind) (cs : List Frame) : Prop :=
 match u with
 | none => kind = .normal
 | some m => kind = .deferred ∧ ∃ c rest, cs = c :: rest ∧ ModeR E m c.mode
theorem UK.mono {E E' : Env} (h : E.le E') {u : Option AMode} {kind : CallKind} {cs : List Frame} (r : UK E u kind cs) : UK E' u kind cs := by
 cases u with
 | none => exact r
 | some m => obtain ⟨a, c, rest, b, d⟩ := r; exact ⟨a, c, rest, b, d.mono h⟩
def CS (u : Option AMode) (cs cs' : List Frame) : Prop :=
 match u with
 | none => cs' = cs
 | some _ => ∃ c rest m, cs = c :: rest ∧ cs' = { c with mode := m } :: rest
theorem CS.refl {E : Env} {u : Option AMode} {kind : CallKind} {cs : List Frame} (r : UK E u kind cs) : CS u cs cs := by
 cases u with
 | none => exact rfl
 | some m => obtain ⟨a, c, rest, rfl, d⟩ := r; exact ⟨c, rest, c.mode, rfl, rfl⟩
theorem CS.trans {u u' : Option AMode} {cs cs' cs'' : List Frame} (h : CS u cs cs') (h' : CS u' cs' cs'') (e : u'.isSome = u.isSome) : CS u cs cs'' := by
 cases u with
 | none => cases u' with
  | none => exact Eq.trans h' h
  | some m => simp at e
 | some m => cases u' with
  | none => simp at e
  | some m' =>
   obtain ⟨c, rest, n, rfl, rfl⟩ := h
   obtain ⟨c', rest', n', e1, rfl⟩ := h'
   cases e1
   exact ⟨c, rest, n', rfl, rfl⟩
structure FR (E : Env) (fr : Fr) (b : Frame) : Prop where
 nt : fr.nt ≤ lim
 fn : b.fn = fr.fid
 rnd : match fr.rnd with | none => b.roundOf = none | some l => b.kind = .normal ∧ ∃ p, E l = some p ∧ b.roundOf = some p.blk
theorem FR.mono {E E' : Env} (h : E.le E') {fr : Fr} {b : Frame} (r : FR E fr b) : FR E' fr b := by
 refine ⟨r.nt, r.fn, ?_⟩
 have := r.rnd
 cases hr : fr.rnd with
 | none => rw [hr] at this; exact this
 | some l => rw [hr] at this; obtain ⟨a, p, b, c⟩ := this; exact ⟨a, p, h _ _ b, c⟩
structure StR (gl : List Nat) (E : Env) (fr : Fr) (s : S) (b : Frame) (tmps : Array Value) (df : List Deferred) (cs : List Frame) (w0 w : World) : Prop where
 mr : MR E s.h w0 w
 tr : TR E fr.nt s.tm tmps
 dr : All₂ (ADR E) s.df df
 uk : UK E s.u b.kind cs
 fr : FR E fr b
 gl : GL E gl
theorem StR.mono {gl : List Nat} {E E' : Env} {fr : Fr} {s : S} {b : Frame} {tmps : Array Value} {df : List Deferred} {cs : List Frame} {w0 w w' : World} {h' : H} (st : StR gl E fr s b tmps df cs w0 w) (x : Ext E s.h E' h') (m : MR E' h' w0 w') :
  StR gl E' fr { s with h := h' } b tmps df cs w0 w' :=
 ⟨m, st.tr.mono x.le, st.dr.mono fun _ _ => ADR.mono x.le, st.uk.mono x.le, st.fr.mono x.le, st.gl.mono x.le⟩
def Arr (P : Program) (E : Env) (x : X) (m : Machine) (b : Frame) (k : List Item) (tmps : Array Value) (df : List Deferred) (cs : List Frame) (w : World) : Prop :=
 match x with
 | .norm => Steps P m (lone (mkF b tmps k df) cs w)
 | .exit id => ∃ k', exitTo id k' = exitTo id k ∧ Steps P m (lone (mkF b tmps (.code (.exit id) :: k') df) cs w)
 | .ret => ∃ k', Steps P m (lone (mkF b tmps (.code .ret :: k') df) cs w)
 | .panic ch => ∃ todo ch', All₂ (PER E) ch ch' ∧ Steps P m (lone { mkF b tmps todo df with mode := .panicking ch' } cs w)
theorem Arr.of {P : Program} {E : Env} {x : X} {m m1 : Machine} {b : Frame} {k : List Item} {tmps : Array Value} {df : List Deferred} {cs : List Frame} {w : World} (h : Steps P m m1) (a : Arr P E x m1 b k tmps df cs w) : Arr P E x m b k tmps df cs w := by
 cases x with
 | norm => exact h.trans a
 | exit id => obtain ⟨k', e, s⟩ := a; exact ⟨k', e, h.trans s⟩
 | ret => obtain ⟨k', s⟩ := a; exact ⟨k', h.trans s⟩
 | panic ch => obtain ⟨t, ch', e, s⟩ := a; exact ⟨t, ch', e, h.trans s⟩
def SItem (P : Program) (gl : List Nat) (fr : Fr) (it : Item) (s : S) (x : X) (s' : S) : Prop :=
 ∀ (E : Env) (w0 w : World) (b : Frame) (tmps : Array Value) (df : List Deferred) (cs : List Frame) (k : List Item), StR gl E fr s b tmps df cs w0 w →
  ∃ E' tmps' df' cs' w', Ext E s.h E' s'.h ∧ StR gl E' fr s' b tmps' df' cs' w0 w' ∧ CS s.u cs cs' ∧ s'.u.isSome = s.u.isSome ∧
   Arr P E' x (lone (mkF b tmps (it :: k) df) cs w) b k tmps' df' cs' w'
def LeaveR (P : Program) (E : Env) (r : AEnd) (fr : Frame) (w : World) : Prop :=
 match r with
 | .ret v => fr.mode = .returning ∧ ∃ fn v', P.funcs[fr.fn]? = some fn ∧ (results fn fr.tmps).run P w = .ok v' w ∧ AR E v v'
 | .pan ch => ∃ ch' fn, fr.mode = .panicking ch' ∧ All₂ (PER E) ch ch' ∧ P.funcs[fr.fn]? = some fn
def SCall (P : Program) (gl : List Nat) (f : FuncId) (args : List V) (u : Option AMode) (h : H) (r : AEnd) (u' : Option AMode) (h' : H) : Prop :=
 ∀ (E : Env) (w0 w : World) (args' : Array Value) (kind : CallKind) (cs : List Frame), MR E h w0 w → GL E gl → ARs E args args'.toList → UK E u kind cs →
  ∃ E' w' cs' fr', Ext E h E' h' ∧ MR E' h' w0 w' ∧ UK E' u' kind cs' ∧ CS u cs cs' ∧ u'.isSome = u.isSome ∧ Steps P (lone (Frame.enter P f args' kind) cs w) (lone fr' cs' w') ∧
   fr'.fn = f ∧ fr'.kind = kind ∧ fr'.roundOf = none ∧ fr'.defers = [] ∧ LeaveR P E' r fr' w'
def SLeave (P : Program) (gl : List Nat) (fn : Func) (tm : T V) (df : List AD) (m : AMode) (u : Option AMode) (h : H) (r : AEnd) (u' : Option AMode) (h' : H) : Prop :=
 ∀ (E : Env) (w0 w : World) (fr : Frame) (cs : List Frame) (nt : Nat), MR E h w0 w → GL E gl → TR E nt tm fr.tmps → All₂ (ADR E) df fr.defers → ModeR E m fr.mode → UK E u fr.kind cs → P.funcs[fr.fn]? = some fn → fr.roundOf = none →
  ∃ E' w' cs' fr', Ext E h E' h' ∧ MR E' h' w0 w' ∧ UK E' u' fr.kind cs' ∧ CS u cs cs' ∧ u'.isSome = u.isSome ∧ Steps P (lone fr cs w) (lone fr' cs' w') ∧
   fr'.fn = fr.fn ∧ fr'.kind = fr.kind ∧ fr'.roundOf = none ∧ fr'.defers = [] ∧ LeaveR P E' r fr' w'
def RndR (P : Program) (E : Env) (r : AEnd) (m : Machine) (c : Frame) (cs : List Frame) (w : World) : Prop :=
 match r with
 | .ret v => ∃ v', AR E v v' ∧ Steps P m (lone (c.finish v') cs w)
 | .pan ch => ∃ ch', All₂ (PER E) ch ch' ∧ Steps P m (lone (c.raise ch') cs w)
def SRound (P : Program) (gl : List Nat) (l : Nat) (args : List V) (h : H) (r : AEnd) (h' : H) : Prop :=
 ∀ (E : Env) (w0 w : World) (args' : Array Value) (p : Place) (c : Frame) (cs : List Frame), MR E h w0 w → GL E gl → ARs E args args'.toList → E l = some p →
  ∃ f ts as bd E' w', (Instr.yield p.blk args').run P w = .ok (.round p.blk f ts as bd) w ∧ Ext E h E' h' ∧ MR E' h' w0 w' ∧
   RndR P E' r (lone (Frame.round p.blk f ts as bd .normal) (c :: cs) w) c cs w'
structure Sound (C : Cfg) (rec : Req → M Res) : Prop where
 code : ∀ fr c s x s', rec (.code fr c s) = .ok (.x x s') → SItem C.P C.gl fr (.code c) s x s' ∧ ∀ d, c = .loop d → SItem C.P C.gl fr (.inLoop d) s x s'
 call : ∀ f args u h r u' h', rec (.call f args u h) = .ok (.e r u' h') → SCall C.P C.gl f args u h r u' h' ∧ ∃ fn, C.P.funcs[f]? = some fn ∧ fn.body.isSome = true
 leave : ∀ fn tm df m u h r u' h', rec (.leave fn tm df m u h) = .ok (.e r u' h') → SLeave C.P C.gl fn tm df m u h r u' h'
 round : ∀ l args h r u' h', rec (.round l args h) = .ok (.e r u' h') → SRound C.P C.gl l args h r h'
structure PrOk (C : Cfg) : Prop where
 mix : C.P.follows .mixedOrders = true
 names : ∀ (f : Nat) (fn : Func), C.P.funcs[f]? = some fn → fn.body.isSome = true → (fn.name == "runtime.NumGoroutine") = false
 ib : ∀ (i : Nat), C.ib = some i → ∃ fn : Func, C.P.funcs[i]? = some fn ∧ fn.body = none ∧ fn.name = "internal/bytealg.IndexByteString" ∧ Extern.findNext fn = none ∧ Extern.find fn = some Extern.BytealgIndexByte.indexByte
theorem put_TR {E : Env} {nt : Nat} {tm tm' : T V} {tmps : Array Value} {dst : Option Nat} {v : V} {v' : Value} (r : TR E nt tm tmps) (h : putT nt tm dst v = some tm') (hv : AR E v v') (hn : nt ≤ lim) : TR E nt tm' (putA tmps dst v') := by
 cases dst with
 | none => simp [putT] at h; subst h; exact r
 | some d =>
  simp only [putT] at h
  split at h
  ·rename_i hd
   cases h
   have hd' : d < nt := by rwa [Nat.blt_eq] at hd
   refine ⟨by simp [putA, r.1], fun t u ht => ?_⟩
   rw [T.get_set _ _ _ _ _ (fu_lim (Nat.lt_of_lt_of_le hd' hn))] at ht
   simp only [putA, Array.getElem?_setIfInBounds]
   split at ht
   ·rename_i e
    cases ht
    subst e
    exact ⟨v', by rw [if_pos rfl, if_pos (by rw [r.1]; exact hd')], hv⟩
   ·rename_i e
    rw [if_neg (fun e2 => e e2.symm)]
    exact r.2 t u ht
  ·cases h
end
end Go.AM
end
section
/- The abstract machine: calls and other heavy operations are sound. -/
set_option linter.unusedVariables false
set_option linter.unusedSimpArgs false
namespace Go.AM
noncomputable section
open Go.RowKit
def OpR (P : Program) (gl : List Nat) (fr : Fr) (o : Oper) (s : S) (r : OR) : Prop :=
 ∀ (E : Env) (w0 w : World) (b : Frame) (tmps : Array Value) (df : List Deferred) (cs : List Frame) (k : List Item) (ops : Array Oper) (i : Nat) (rest : List Nat),
  StR gl E fr s b tmps df cs w0 w → ops[i]? = some o → Region.wanted o (yielded ops tmps) = true →
  match r with
  | .val v s' => s'.tm = s.tm ∧ ∃ E' df' cs' w' v', Ext E s.h E' s'.h ∧ StR gl E' fr s' b tmps df' cs' w0 w' ∧ CS s.u cs cs' ∧ s'.u.isSome = s.u.isSome ∧ AR E' v v' ∧
    Steps P (lone (mkF b tmps (.inRegion ops (i :: rest) :: k) df) cs w) (lone (mkF b (putA tmps o.dst v') (.inRegion ops rest :: k) df') cs' w')
  | .pan ch s' => s'.tm = s.tm ∧ ∃ E' df' cs' w' todo ch', Ext E s.h E' s'.h ∧ StR gl E' fr s' b tmps df' cs' w0 w' ∧ CS s.u cs cs' ∧ s'.u.isSome = s.u.isSome ∧ All₂ (PER E') ch ch' ∧
    Steps P (lone (mkF b tmps (.inRegion ops (i :: rest) :: k) df) cs w) (lone { mkF b tmps todo df' with mode := .panicking ch' } cs' w')
theorem opR_val {P : Program} {gl : List Nat} {fr : Fr} {o : Oper} {s : S} {v : V} {h' : H} (hd : ∀ c, o.op ≠ .defer c)
  (hr : ∀ (E : Env) (w0 w : World) (tmps : Array Value), MR E s.h w0 w → TR E fr.nt s.tm tmps → GL E gl → ∃ E' w' n v', (execOp (evT tmps) o).run P w = .ok n w' ∧ (n = .value v' ∨ n = .skip ∧ v' = undef) ∧ Ext E s.h E' h' ∧ MR E' h' w0 w' ∧ AR E' v v') :
  OpR P gl fr o s (.val v { s with h := h' }) := by
 intro E w0 w b tmps df cs k ops i rest st ho hw
 obtain ⟨E', w', n, v', h1, h2, h3, h4, h5⟩ := hr E w0 w tmps st.mr st.tr st.gl
 refine ⟨rfl, E', df, cs, w', v', h3, st.mono h3 h4, CS.refl st.uk, rfl, h5, ?_⟩
 rcases h2 with rfl | ⟨rfl, rfl⟩
 ·exact .one (st_val ho hw (.inr hd) h1)
 ·exact .one (st_skipv ho hw (.inr hd) h1)
theorem light_opR {P : Program} {gl : List Nat} {fr : Fr} {o : Oper} {s : S} {v : V} (h : alight P gl s.tm s.h o = some v) : OpR P gl fr o s (.val v s) := by
 have hd : ∀ c, o.op ≠ .defer c := by intro c hc; simp [alight, hc] at h
 refine opR_val (h' := s.h) hd fun E w0 w tmps m r g => ?_
 obtain ⟨v', h1, h2⟩ := light_sound m g r h
 exact ⟨E, w, _, v', h1, .inl rfl, Ext.refl _ _, m, h2⟩
theorem alloc_opR {P : Program} {gl : List Nat} {fr : Fr} {o : Oper} {s : S} {v : V} {h' : H} (h : aalloc P gl s.tm s.h o = some (v, h')) : OpR P gl fr o s (.val v { s with h := h' }) := by
 have hd : ∀ c, o.op ≠ .defer c := by intro c hc; simp [aalloc, hc] at h
 refine opR_val hd fun E w0 w tmps m r g => ?_
 obtain ⟨b, ob, hn, ha⟩ := alloc_sound (nt := fr.nt) h
 obtain ⟨v', cob, n, p, h1, h2, h3, h4⟩ := ha E w tmps g r
 obtain ⟨m1, x1, hEb, hget, hlt, hgb, hbn⟩ := ghost_new m hn
 have hle := upd_le (p := p) hEb
 have := place_sound (m1.drawn n) (p := p) hlt hEb hgb cob h2 (fun o ho => by rw [hget] at ho; cases ho; exact h3.mono hle)
 refine ⟨upd E b p, _, _, v', h1, .inl rfl, ?_, this, h4 _ (by unfold upd; rw [if_pos rfl])⟩
 exact ⟨hle, fun k hk => by unfold upd; rw [if_neg (by omega)], x1.nxt, x1.ghost⟩
theorem store_opR {P : Program} {gl : List Nat} {fr : Fr} {o : Oper} {s : S} {h' : H} (h : astore P gl s.tm s.h o = some h') : OpR P gl fr o s (.val undefV { s with h := h' }) := by
 have hd : ∀ c, o.op ≠ .defer c := by intro c hc; simp [astore, hc] at h
 refine opR_val hd fun E w0 w tmps m r g => ?_
 obtain ⟨w', h1, h2, h3⟩ := store_sound m g r h
 exact ⟨E, w', _, undef, h1, .inr ⟨rfl, rfl⟩, h3, h2, .tup [] #[] .nil⟩
theorem run_callFunc {P : Program} {f : FuncId} {fn : Func} (hf : P.funcs[f]? = some fn) (hb : fn.body.isSome = true) (hn : (fn.name == "runtime.NumGoroutine") = false) (args : Array Value) (w : World) :
  (callFunc f args).run P w = .ok (.enter f args) w := by
 have hb' : fn.body.isNone = false := by rw [← Option.not_isSome, hb]; rfl
 simp only [callFunc, Sem.run_bind, run_program, Result.andThen_ok, hf, hn, Bool.false_eq_true, if_false, hb', Sem.run_pure]
theorem exec_call {P : Program} {dst : Option Tmp} {c : Go.Call} {f : Operand} {ty : TypeId} {pos : String} {after : Array Edge} {guard : Option (Nat × Bool)} {args : Array Operand} {argTypes : Array TypeId} {ρ : Operand → Value} {fv : Fn} {fi cp : Array Value} (h : ρ f = .func fv fi cp) (w : World) :
  (execOp ρ ⟨dst, .call ⟨.value f, args, argTypes⟩, ty, pos, after, guard⟩).run P w = (invoke (.fn fv cp) (fi ++ args.map ρ)).run P w := by
 simp only [execOp, resolve, h, Deferred.ofValue, Sem.run_bind, Sem.run_pure, Result.andThen_ok]
theorem find_idx {c : Nat} (hc : c < 256) : ∀ (l : List UInt8) (s : Nat) (f : Nat → UInt8), (∀ (i : Nat) (h : i < l.length), f (s + i) = l[i]) →
  (List.range' s l.length).find? (fun i => f i == UInt8.ofNat c) = idxB c (l.map UInt8.toNat) s
 | [], s, f, h => rfl
 | a :: l, s, f, h => by
  have h0 : f s = a := h 0 (by simp)
  have hb : (a == UInt8.ofNat c) = Nat.beq a.toNat c := by
   rw [Bool.eq_iff_iff, beq_iff_eq, ← UInt8.toNat_inj, Nat.beq_eq, UInt8.toNat_ofNat', Nat.mod_eq_of_lt hc]
  have ih := find_idx hc l (s + 1) f (fun i hi => by
   have := h (i + 1) (by simpa using hi)
   simpa [Nat.add_assoc, Nat.add_comm 1 i] using this)
  simp only [List.length_cons, List.range'_succ, List.find?_cons, List.map_cons, idxB, h0, hb]
  cases Nat.beq a.toNat c
  ·exact ih
  ·rfl
theorem callFn_func {C : Cfg} {rec : Req → M Res} {f : FuncId} {cap args : List V} {s : AM.S} {r : OR} (h : callFn C rec (.func f) cap args s = .ok r) :
  (∃ bs c, C.isIb f = true ∧ cap = [] ∧ args = [.str bs, .int .u8 (.ofNat c)] ∧ c < 256 ∧ r = .val (.int .i64 (match idxB c bs 0 with | some i => i | none => -1)) s) ∨
  (∃ v u' h', rec (.call f (args ++ cap) none s.h) = .ok (.e (.ret v) u' h') ∧ r = .val v { s with h := h' }) ∨
  ∃ ch u' h', rec (.call f (args ++ cap) none s.h) = .ok (.e (.pan ch) u' h') ∧ r = .pan ch { s with h := h' } := by
 simp only [callFn] at h
 split at h
 ·rename_i bs c hib
  split at h
  ·rename_i hc
   cases h
   exact .inl ⟨bs, c, hib, rfl, rfl, hc, rfl⟩
  ·cases h
 ·split at h
  ·rename_i v u' h' hrec
   cases h
   exact .inr (.inl ⟨v, u', h', hrec, rfl⟩)
  ·rename_i v u' h' hrec
   cases h
   exact .inr (.inr ⟨v, u', h', hrec, rfl⟩)
  ·cases h
  ·cases h
theorem call_opR {C : Cfg} (pr : PrOk C) {rec : Req → M Res} (S : Sound C rec) {fr : Fr} {dst : Option Tmp} {f : Operand} {ty : TypeId} {pos : String} {after : Array Edge} {guard : Option (Nat × Bool)} {args : Array Operand} {argTypes : Array TypeId}
  {s : AM.S} {fv : Fn} {first cap vs : List V} {r : OR} (hf : ev C.gl s.tm f = some (.fn fv first cap)) (hv : evs C.gl s.tm args.toList = some vs) (h : callFn C rec fv cap (first ++ vs) s = .ok r) :
  OpR C.P C.gl fr ⟨dst, .call ⟨.value f, args, argTypes⟩, ty, pos, after, guard⟩ s r := by
 intro E w0 w b tmps df cs k ops i rest st ho hw
 have hd : b.roundOf = none ∨ ∀ c, (Op.call ⟨.value f, args, argTypes⟩) ≠ .defer c := .inr (fun c e => by cases e)
 have rf := ev_sound st.gl st.tr hf
 have rv := evs_sound st.gl st.tr hv
 cases hfv : evT tmps f <;> rw [hfv] at rf <;> cases rf
 ·rename_i fi cp fid ra rc
  have hex := fun w => exec_call (P := C.P) (dst := dst) (c := default) (ty := ty) (pos := pos) (after := after) (guard := guard) (args := args) (argTypes := argTypes) hfv w
  have rargs : ARs E ((first ++ vs) ++ cap) ((fi ++ args.map (evT tmps)) ++ cp).toList := by
   simp only [Array.toList_append, Array.toList_map]
   exact (ra.append rv).append rc
  rcases callFn_func h with ⟨bs, c, hib, hcap, hargs, hc256, rfl⟩ | ⟨v, u', h', hrec, rfl⟩ | ⟨ch, u', h', hrec, rfl⟩
  ·subst hcap
   ·skip
    obtain ⟨gi, hgi, rfl⟩ : ∃ gi, C.ib = some gi ∧ fid = gi := by
     unfold Cfg.isIb at hib
     split at hib
     ·rename_i gi hgi; exact ⟨gi, hgi, Nat.eq_of_beq_eq_true hib⟩
     ·cases hib
    obtain ⟨fn, hfn, hb, hname, hnext, hfind⟩ := pr.ib _ hgi
    rw [hargs] at rargs
    obtain ⟨a1, a2, hl, r1, r2⟩ : ∃ a1 a2, ((fi ++ args.map (evT tmps)) ++ cp).toList = [a1, a2] ∧ AR E (.str bs) a1 ∧ AR E (.int .u8 (.ofNat c)) a2 := by
     rw [List.append_nil] at rargs
     generalize ((fi ++ args.map (evT tmps)) ++ cp).toList = L at rargs
     cases rargs with | cons _ a1 _ _ h1 t => cases t with | cons _ a2 _ _ h2 t => cases t; exact ⟨a1, a2, rfl, h1, h2⟩
    have harr : ((fi ++ args.map (evT tmps)) ++ cp) = #[a1, a2] := Array.toList_inj.1 hl
    have h1 : (execOp (evT tmps) ⟨dst, .call ⟨.value f, args, argTypes⟩, ty, pos, after, guard⟩).run C.P w = .ok (.value (.int .i64 (match idxB c bs 0 with | some i => i | none => -1))) w := by
     rw [hex]
     have hbn : fn.body.isNone = true := by rw [hb]; rfl
     have hnum : (fn.name == "runtime.NumGoroutine") = false := by rw [hname]; decide
     simp only [invoke, callFunc, Sem.run_bind, run_program, Result.andThen_ok, hfn, hnum, Bool.false_eq_true, if_false, hbn, if_true, run_mark, hnext, hfind, Sem.run_pure, harr]
     cases r1 with | str _ y e => cases r2 with | int _ _ =>
     have hy : y.size = y.data.toList.length := by rw [Array.length_toList]; rfl
     have hix := find_idx (c := c) hc256 y.data.toList 0 (fun i => y[i]!) (fun i hi => by
      rw [Nat.zero_add]
      have h1 : i < y.size := by rw [hy]; exact hi
      rw [getElem!_pos y i h1, Array.getElem_toList]; rfl)
     rw [e, ← hy, ← List.range_eq_range'] at hix
     have hc : (Int.ofNat c).toNat.toUInt8 = UInt8.ofNat c := rfl
     have e9 : Extern.BytealgIndexByte.indexByte #[.string y, .int .u8 (Int.ofNat c)] = (do
       let b ← Extern.Bytes.bytesOf (.string y)
       let c ← Extern.Bytes.asByte (.int .u8 (Int.ofNat c))
       match (List.range b.size).find? fun i => b[i]! == c with
       | some i => pure (goInt i)
       | none => pure (goInt (-1))) := rfl
     rw [e9]
     simp only [Extern.Bytes.bytesOf, Extern.Bytes.asByte, Sem.run_bind, Sem.run_pure, Result.andThen_ok, hc, hix]
     cases idxB c bs 0 <;> rfl
    refine ⟨rfl, E, df, cs, w, _, Ext.refl _ _, st, CS.refl st.uk, rfl, ?_, .one (st_val ho hw hd h1)⟩
    exact .int _ _
  ··obtain ⟨sc, fn, hfn, hb⟩ := S.call _ _ _ _ _ _ _ hrec
    obtain ⟨E', w', cs', fr', x, m', uk', cse, hu, steps, e1, e2, e3, e4, lv⟩ := sc E w0 w _ .normal (mkF b tmps (.inRegion ops (i :: rest) :: k) df :: cs) st.mr st.gl rargs rfl
    have hcs : cs' = mkF b tmps (.inRegion ops (i :: rest) :: k) df :: cs := cse
    subst hcs
    obtain ⟨hm, fn', v', hfn', hres, hav⟩ := lv
    refine ⟨rfl, E', df, cs, w', v', x, st.mono x m', CS.refl st.uk, rfl, hav, ?_⟩
    have h1 : (execOp (evT tmps) ⟨dst, .call ⟨.value f, args, argTypes⟩, ty, pos, after, guard⟩).run C.P w = .ok (.enter fid ((fi ++ args.map (evT tmps)) ++ cp)) w := by
     rw [hex]; exact run_callFunc hfn hb (pr.names _ _ hfn hb) _ _
    have hleave : fr'.leaving C.P w' (.returned v') := ⟨hm, e4, e2, fn', hfn', hres⟩
    have hs := step_leave_returned (cs := cs) (c := mkF b tmps (.inRegion ops (i :: rest) :: k) df) hleave
    rw [finish_mkF, ho] at hs
    exact .head (st_enter ho hw hd h1) (steps.trans (.one hs))
  ··obtain ⟨sc, fn, hfn, hb⟩ := S.call _ _ _ _ _ _ _ hrec
    obtain ⟨E', w', cs', fr', x, m', uk', cse, hu, steps, e1, e2, e3, e4, lv⟩ := sc E w0 w _ .normal (mkF b tmps (.inRegion ops (i :: rest) :: k) df :: cs) st.mr st.gl rargs rfl
    have hcs : cs' = mkF b tmps (.inRegion ops (i :: rest) :: k) df :: cs := cse
    subst hcs
    obtain ⟨ch', fn', hm, hch, hfn'⟩ := lv
    have h1 : (execOp (evT tmps) ⟨dst, .call ⟨.value f, args, argTypes⟩, ty, pos, after, guard⟩).run C.P w = .ok (.enter fid ((fi ++ args.map (evT tmps)) ++ cp)) w := by
     rw [hex]; exact run_callFunc hfn hb (pr.names _ _ hfn hb) _ _
    have hleave : fr'.leaving C.P w' (.panicked ch') := ⟨hm, e4, fn', hfn'⟩
    have hs := step_leave_panicked (cs := cs) (c := mkF b tmps (.inRegion ops (i :: rest) :: k) df) hleave
    rw [raise_mkF] at hs
    exact ⟨rfl, E', df, cs, w', _, ch', x, st.mono x m', CS.refl st.uk, rfl, hch, .head (st_enter ho hw hd h1) (steps.trans (.one hs))⟩
 ·rename_i l p hE
  have hex := fun w => exec_call (P := C.P) (dst := dst) (c := default) (ty := ty) (pos := pos) (after := after) (guard := guard) (args := args) (argTypes := argTypes) hfv w
  have rargs : ARs E ([] ++ vs) ((#[] : Array Value) ++ args.map (evT tmps)).toList := by
   simpa using rv
  simp only [callFn] at h
  split at h
  ·rename_i v u' h' hrec
   cases h
   obtain ⟨f1, ts, as, bd, E', w', q1, x, m', v', hav, steps⟩ := S.round _ _ _ _ _ _ hrec E w0 w _ p (mkF b tmps (.inRegion ops (i :: rest) :: k) df) cs st.mr st.gl rargs hE
   refine ⟨rfl, E', df, cs, w', v', x, st.mono x m', CS.refl st.uk, rfl, hav, ?_⟩
   have h1 := st_round (rest := rest) (k := k) (df := df) (cs := cs) (P := C.P) (w := w) ho hw hd (by rw [hex]; exact q1)
   have h2 := steps
   rw [finish_mkF, ho] at h2
   exact .head h1 h2
  ·rename_i ch u' h' hrec
   cases h
   obtain ⟨f1, ts, as, bd, E', w', q1, x, m', ch', hch, steps⟩ := S.round _ _ _ _ _ _ hrec E w0 w _ p (mkF b tmps (.inRegion ops (i :: rest) :: k) df) cs st.mr st.gl rargs hE
   have h1 := st_round (rest := rest) (k := k) (df := df) (cs := cs) (P := C.P) (w := w) ho hw hd (by rw [hex]; exact q1)
   have h2 := steps
   rw [raise_mkF] at h2
   exact ⟨rfl, E', df, cs, w', _, ch', x, st.mono x m', CS.refl st.uk, rfl, hch, .head h1 h2⟩
  ·cases h
  ·cases h
theorem exec_builtin {P : Program} {dst : Option Tmp} {bi : Builtin} {ty : TypeId} {pos : String} {after : Array Edge} {guard : Option (Nat × Bool)} {args : Array Operand} {argTypes : Array TypeId} {ρ : Operand → Value} (w : World) :
  (execOp ρ ⟨dst, .call ⟨.builtin bi, args, argTypes⟩, ty, pos, after, guard⟩).run P w = (builtin bi argTypes ty (args.map fun | .const _ => true | _ => false) (args.map ρ)).run P w := by
 simp only [execOp, resolve, Sem.run_bind, Sem.run_pure, Result.andThen_ok, invoke]
 rfl
theorem arr_of {args : Array Operand} {ρ : Operand → Value} {l : List Value} (h : args.toList.map ρ = l) : args.map ρ = l.toArray := by
 apply Array.toList_inj.1; simpa using h
theorem val_run {P : Program} {s : Sem Value} {v : Value} {w w' : World} (h : s.run P w = .ok v w') : (do pure (Next.value (← s)) : Sem Next).run P w = .ok (.value v) w' := by simp [h]
set_option maxHeartbeats 1000000 in
theorem heavy_sound {C : Cfg} (pr : PrOk C) {rec : Req → M Res} (S : Sound C rec) {fr : Fr} {o : Oper} {s : AM.S} {r : OR} (h : heavy C rec fr o s = .ok r) : OpR C.P C.gl fr o s r := by
 obtain ⟨dst, op, ty, pos, after, guard⟩ := o
 cases op with
 | call c =>
  obtain ⟨callee, args, argTypes⟩ := c
  cases callee with
  | value f =>
   simp only [heavy] at h
   split at h
   ·rename_i fv first cap vs hf hv
    exact call_opR pr S hf hv h
   ·cases h
  | invoke f n => simp [heavy] at h
  | builtin bi =>
   have hd : ∀ c, (Op.call ⟨.builtin bi, args, argTypes⟩) ≠ .defer c := fun c e => by cases e
   simp only [heavy] at h
   split at h
   ·rename_i x y hv
    split at h
    ·rename_i v h' ha
     cases h
     refine opR_val hd fun E w0 w tmps m r g => ?_
     have rv := evs_sound g r hv
     obtain ⟨a1, a2, hl, r1, r2⟩ : ∃ a1 a2, args.toList.map (evT tmps) = [a1, a2] ∧ AR E x a1 ∧ AR E y a2 := by
      generalize args.toList.map (evT tmps) = L at rv
      cases rv with | cons _ a1 _ _ h1 t => cases t with | cons _ a2 _ _ h2 t => cases t; exact ⟨a1, a2, rfl, h1, h2⟩
     obtain ⟨v', w', E', h1, h2, h3, h4⟩ := append_sound m (ty := ty) ha r1 r2
     exact ⟨E', w', _, v', by rw [exec_builtin, arr_of hl]; exact val_run h1, .inl rfl, h2, h3, h4⟩
    ·cases h
   ·rename_i hv
    split at h
    ·rename_i v older hr hu
     cases h
     intro E w0 w b tmps df cs k ops i rest st ho hw
     have hro : b.roundOf = none := by have := st.fr.rnd; rw [hr] at this; exact this
     have huk := st.uk
     rw [hu] at huk
     obtain ⟨hkind, c, rst, rfl, hm⟩ := huk
     cases hcm : c.mode with
     | run => rw [hcm] at hm; cases hm
     | returning => rw [hcm] at hm; cases hm
     | panicking ch =>
      rw [hcm] at hm
      cases hm with
      | pan _ _ hch =>
       cases hch with
       | cons h1 t1 =>
        cases h1 with
        | mk _ v' _ hv' =>
         rename_i older'
         have hrun : (execOp (evT tmps) ⟨dst, .call ⟨.builtin .recover, args, argTypes⟩, ty, pos, after, guard⟩).run C.P w = .ok .recover w := by
          rw [exec_builtin]; rfl
         have hst := st_recover (P := C.P) (b := b) (df := df) (k := k) (cs := c :: rst) (rest := rest) ho hw hro hrun
         have htr : tryRecover (mkF b tmps (.inRegion ops (i :: rest) :: k) df) (c :: rst) = some (v', { c with mode := .panicking ({ v := v', recovered := true } :: older') } :: rst) := by
          simp [tryRecover, mkF, hkind, hcm]
         rw [htr] at hst
         refine ⟨rfl, E, df, _, w, v', Ext.refl _ _, ⟨st.mr, st.tr, st.dr, ⟨hkind, _, rst, rfl, .pan _ _ (.cons (.mk _ _ _ hv') t1)⟩, st.fr, st.gl⟩, ?_, by rw [hu]; rfl, hv', .one hst⟩
         rw [hu]; exact ⟨c, rst, _, rfl, rfl⟩
    ·rename_i hr hnot
     cases h
     intro E w0 w b tmps df cs k ops i rest st ho hw
     have hro : b.roundOf = none := by have := st.fr.rnd; rw [hr] at this; exact this
     have hrun : (execOp (evT tmps) ⟨dst, .call ⟨.builtin .recover, args, argTypes⟩, ty, pos, after, guard⟩).run C.P w = .ok .recover w := by
      rw [exec_builtin]; rfl
     have hst := st_recover (P := C.P) (b := b) (df := df) (k := k) (cs := cs) (rest := rest) ho hw hro hrun
     have htr : tryRecover (mkF b tmps (.inRegion ops (i :: rest) :: k) df) cs = none := by
      have huk := st.uk
      cases hu : s.u with
      | none =>
       rw [hu] at huk
       have hk : b.kind = .normal := huk
       simp [tryRecover, mkF, hk]
      | some m =>
       rw [hu] at huk
       obtain ⟨hkind, c, rst, rfl, hm⟩ := huk
       cases m with
       | ret =>
        cases hcm : c.mode <;> rw [hcm] at hm <;> cases hm
        simp [tryRecover, mkF, hkind, hcm]
       | pan ch =>
        cases hcm : c.mode <;> rw [hcm] at hm <;> cases hm
        rename_i ch' hch
        cases hch with
        | nil => simp [tryRecover, mkF, hkind, hcm]
        | cons h1 t1 =>
         cases h1 with
         | mk v v' rr hv' =>
          cases rr with
          | true => simp [tryRecover, mkF, hkind, hcm]
          | false => exact absurd hu (hnot _ _)
     rw [htr] at hst
     exact ⟨rfl, E, df, cs, w, _, Ext.refl _ _, st, CS.refl st.uk, rfl, .nili, .one hst⟩
    ·cases h
   ·rename_i b k hv
    split at h
    ·rename_i kt et es hu hb
     split at h
     ·rename_i es' hk hes
      cases h
      refine opR_val hd fun E w0 w tmps m r g => ?_
      have rv := evs_sound g r hv
      obtain ⟨a1, a2, hl, r1, r2⟩ : ∃ a1 a2, args.toList.map (evT tmps) = [a1, a2] ∧ AR E (.map b) a1 ∧ AR E k a2 := by
       generalize args.toList.map (evT tmps) = L at rv
       cases rv with | cons _ a1 _ _ h1 t => cases t with | cons _ a2 _ _ h2 t => cases t; exact ⟨a1, a2, rfl, h1, h2⟩
      obtain ⟨w', h1, h2, h3⟩ := delete_sound m (ty := ty) hu hk hb hes r1 r2
      exact ⟨E, w', _, undef, by rw [exec_builtin, arr_of hl]; exact val_run h1, .inl rfl, h3, h2, .tup [] #[] .nil⟩
     ·cases h
    ·cases h
   ·rename_i x hv
    have one : ∀ {E : Env} {tmps : Array Value} (g : GL E C.gl) (r : TR E fr.nt s.tm tmps), ∃ a1, args.toList.map (evT tmps) = [a1] ∧ AR E x a1 := by
     intro E tmps g r
     have rv := evs_sound g r hv
     generalize args.toList.map (evT tmps) = L at rv
     cases rv with | cons _ a1 _ _ h1 t => cases t; exact ⟨a1, rfl, h1⟩
    split at h
    ·rename_i el hu
     cases h
     refine opR_val (h' := s.h) hd fun E w0 w tmps m r g => ?_
     obtain ⟨a1, hl, r1⟩ := one g r
     exact ⟨E, w, _, undef, by rw [exec_builtin, arr_of hl]; exact val_run (clear_none hu (.inl rfl) r1 w), .inl rfl, Ext.refl _ _, m, .tup [] #[] .nil⟩
    ·rename_i el b off n c hu
     split at h
     ·rename_i hn
      cases h
      have hn0 := Nat.eq_of_beq_eq_true hn
      refine opR_val (h' := s.h) hd fun E w0 w tmps m r g => ?_
      obtain ⟨a1, hl, r1⟩ := one g r
      exact ⟨E, w, _, undef, by rw [exec_builtin, arr_of hl]; exact val_run (clear_none hu (.inr ⟨b, off, c, by rw [hn0]⟩) r1 w), .inl rfl, Ext.refl _ _, m, .tup [] #[] .nil⟩
     ·rename_i z hn hz
      split at h
      ·rename_i h' hw
       cases h
       have hn0 : n ≠ 0 := by rintro rfl; cases hn
       refine opR_val hd fun E w0 w tmps m r g => ?_
       obtain ⟨a1, hl, r1⟩ := one g r
       obtain ⟨w', h1, h2, h3⟩ := clear_sound m (ty := ty) hu hn0 hz hw r1
       exact ⟨E, w', _, undef, by rw [exec_builtin, arr_of hl]; exact val_run h1, .inl rfl, h3, h2, .tup [] #[] .nil⟩
      ·cases h
     ·cases h
    ·cases h
   ·cases h
 | defer c =>
  obtain ⟨callee, args, argTypes⟩ := c
  cases callee with
  | value f =>
   simp only [heavy] at h
   split at h
   ·rename_i g first cap vs hr hf hv
    cases h
    intro E w0 w b tmps df cs k ops i rest st ho hw
    have hro : b.roundOf = none := by have := st.fr.rnd; rw [hr] at this; exact this
    have rf := ev_sound st.gl st.tr hf
    have rv := evs_sound st.gl st.tr hv
    cases hfv : evT tmps f <;> rw [hfv] at rf <;> cases rf
    rename_i fi cp ra rc
    have hrun : (execOp (evT tmps) ⟨dst, .defer ⟨.value f, args, argTypes⟩, ty, pos, after, guard⟩).run C.P w = .ok (.defer { target := .fn (.func g) cp, args := fi ++ args.map (evT tmps) }) w := by
     simp only [execOp, resolve, hfv, Deferred.ofValue, Sem.run_bind, Sem.run_pure, Result.andThen_ok]
    refine ⟨rfl, E, _, cs, w, undef, Ext.refl _ _, ⟨st.mr, st.tr, .cons (.call g cap (first ++ vs) cp _ rc ?_) st.dr, st.uk, st.fr, st.gl⟩, CS.refl st.uk, rfl, .tup [] #[] .nil, .one (st_defer ho hw hro hrun)⟩
    simp only [Array.toList_append, Array.toList_map]
    exact ra.append rv
   ·cases h
  | invoke f n => simp [heavy] at h
  | builtin bi => simp [heavy] at h
 | panic x =>
  simp only [heavy] at h
  split at h
  ·rename_i t v hx
   cases h
   intro E w0 w b tmps df cs k ops i rest st ho hw
   have rx := ev_sound st.gl st.tr hx
   cases hcv : evT tmps x <;> rw [hcv] at rx <;> cases rx
   rename_i v' rv
   have h1 : (execOp (evT tmps) ⟨dst, .panic x, ty, pos, after, guard⟩).run C.P w = .halt (.panic (.iface t v')) w := by
    simp [execOp, hcv, Instr.panic]
   exact ⟨rfl, E, df, cs, w, _, _, Ext.refl _ _, st, CS.refl st.uk, rfl, .cons (.mk _ _ _ (.iface t v v' rv)) .nil, .one (st_pan ho hw (.inr fun c e => by cases e) h1)⟩
  ·cases h
 | mapUpdate t m k x =>
  simp only [heavy] at h
  split at h
  ·rename_i kt et b kv v hu hm hk hx
   split at h
   ·rename_i es hok hb
    split at h
    ·rename_i es' hes
     cases h
     refine opR_val (fun c e => by cases e) fun E w0 w tmps mm r g => ?_
     obtain ⟨w', h1, h2, h3⟩ := mapUpdate_sound mm hu hok hb hes (ev_sound g r hm) (ev_sound g r hk) (ev_sound g r hx)
     exact ⟨E, w', _, undef, by simp [execOp, h1], .inr ⟨rfl, rfl⟩, h3, h2, .tup [] #[] .nil⟩
    ·cases h
   ·cases h
  ·cases h
 | insert t m k x =>
  simp only [heavy] at h
  split at h
  ·rename_i kt et b kv v hu hm hk hx
   split at h
   ·rename_i es hok hb
    split at h
    ·rename_i es' hes
     cases h
     refine opR_val (fun c e => by cases e) fun E w0 w tmps mm r g => ?_
     obtain ⟨w', h1, h2, h3⟩ := mapUpdate_sound mm hu hok hb hes (ev_sound g r hm) (ev_sound g r hk) (ev_sound g r hx)
     exact ⟨E, w', _, undef, by simp [execOp, h1], .inr ⟨rfl, rfl⟩, h3, h2, .tup [] #[] .nil⟩
    ·cases h
   ·cases h
  ·cases h
 | _ => simp [heavy] at h
end
end Go.AM
end
section
/- The abstract machine: regions in the order of the text. -/
set_option linter.unusedVariables false
set_option linter.unusedSimpArgs false
namespace Go.AM
noncomputable section
open Go.RowKit
theorem opx_sound {C : Cfg} (pr : PrOk C) {rec : Req → M Res} (S : Sound C rec) {fr : Fr} {o : Oper} {s : AM.S} {r : OR} (h : opx C rec fr o s = .ok r) : OpR C.P C.gl fr o s r := by
 unfold opx at h
 split at h
 ·rename_i v hv; cases h; exact light_opR hv
 ·split at h
  ·rename_i v h' hv; cases h; exact alloc_opR hv
  ·split at h
   ·rename_i h' hv; cases h; exact store_opR hv
   ·exact heavy_sound pr S h
theorem wanted_sound {E : Env} {nt : Nat} {tm : T V} {tmps : Array Value} {ops : Array Oper} {o : Oper} {q : Bool} (h : wantedA ops o tm = some q) (r : TR E nt tm tmps) : Region.wanted o (yielded ops tmps) = q := by
 unfold wantedA at h
 unfold Region.wanted
 cases hg : o.guard with
 | none => rw [hg] at h; simpa using h
 | some jw =>
  obtain ⟨j, want⟩ := jw
  rw [hg] at h
  simp only at h ⊢
  cases hd : (ops[j]?).bind (·.dst) with
  | none => rw [hd] at h; cases h; simp [yielded, hd]
  | some d =>
   rw [hd] at h
   simp only at h
   cases ht : tm.get d with
   | none => rw [ht] at h; cases h
   | some u =>
    obtain ⟨u', hu, hr⟩ := r.2 d u ht
    rw [ht] at h
    cases u with
    | bool c => cases h; cases hr; simp [yielded, hd, hu]
    | _ => cases h; cases hr <;> simp [yielded, hd, hu]
def IxR (ops : Array Oper) : Nat → Oper → Prop := fun i o => ops[i]? = some o
theorem ix_range (ops : Array Oper) : All₂ (IxR ops) (List.range ops.size) ops.toList := by
 have key : ∀ (l : List Oper) (n : Nat) (ops : Array Oper), (∀ j o, l[j]? = some o → ops[n + j]? = some o) → All₂ (IxR ops) (List.range' n l.length) l := by
  intro l
  induction l with
  | nil => intro n ops h; exact .nil
  | cons a l ih =>
   intro n ops h
   rw [List.length_cons, List.range'_succ]
   refine .cons (h 0 a rfl) (ih (n + 1) ops fun j o hj => ?_)
   have := h (j + 1) o (by simpa using hj)
   rwa [show n + 1 + j = n + (j + 1) by omega]
 rw [List.range_eq_range', ← Array.length_toList]
 exact key ops.toList 0 ops fun j o hj => by rw [Nat.zero_add]; simpa using hj
theorem StR.put {gl : List Nat} {E : Env} {fr : Fr} {s : S} {b : Frame} {tmps : Array Value} {df : List Deferred} {cs : List Frame} {w0 w : World} (st : StR gl E fr s b tmps df cs w0 w) {tm : T V} {dst : Option Nat} {v : V} {v' : Value}
  (h : putT fr.nt s.tm dst v = some tm) (hv : AR E v v') : StR gl E fr { s with tm } b (putA tmps dst v') df cs w0 w :=
 ⟨st.mr, put_TR st.tr h hv st.fr.nt, st.dr, st.uk, st.fr, st.gl⟩
theorem seqOps_sound {C : Cfg} (pr : PrOk C) {rec : Req → M Res} (S : Sound C rec) {fr : Fr} {ops : Array Oper} : ∀ (l : List Nat) (os : List Oper), All₂ (IxR ops) l os → ∀ (s : AM.S) (x : X) (s' : AM.S), seqOps C rec fr ops os s = .ok (.x x s') →
  SItem C.P C.gl fr (.inRegion ops l) s x s' := by
 intro l os hl
 induction hl with
 | nil =>
  intro s x s' h
  simp only [seqOps_n, seqOps_c] at h
  cases h
  intro E w0 w b tmps df cs k st
  exact ⟨E, tmps, df, cs, w, Ext.refl _ _, st, CS.refl st.uk, rfl, .one st_end⟩
 | @cons i o l os hi ht ih =>
  intro s x s' h
  simp only [seqOps_n, seqOps_c] at h
  intro E w0 w b tmps df cs k st
  split at h
  ·cases h
  ·rename_i hq
   have hw := wanted_sound hq st.tr
   split at h
   ·rename_i tm htm
    have st2 := st.put htm (.tup [] #[] .nil)
    obtain ⟨E', tmps', df', cs', w', a1, a2, a3, a4, a5⟩ := ih _ x s' h E w0 w b _ df cs k st2
    exact ⟨E', tmps', df', cs', w', a1, a2, a3, a4, Arr.of (.one (st_op_skip hi hw)) a5⟩
   ·cases h
  ·rename_i hq
   have hw := wanted_sound hq st.tr
   split at h
   ·cases h
   ·rename_i ch s2 hop
    cases h
    obtain ⟨e, E', df', cs', w', todo, ch', a1, a2, a3, a4, a5, a6⟩ := opx_sound pr S hop E w0 w b tmps df cs k ops i l st hi hw
    exact ⟨E', tmps, df', cs', w', a1, a2, a3, a4, todo, ch', a5, a6⟩
   ·rename_i v s2 hop
    obtain ⟨e, E', df', cs', w', v', a1, a2, a3, a4, a5, a6⟩ := opx_sound pr S hop E w0 w b tmps df cs k ops i l st hi hw
    split at h
    ·rename_i tm htm
     have st3 := a2.put htm a5
     obtain ⟨E2, tmps2, df2, cs2, w2, b1, b2, b3, b4, b5⟩ := ih _ x s' h E' w0 w' b _ df' cs' k st3
     exact ⟨E2, tmps2, df2, cs2, w2, a1.trans b1, b2, CS.trans a3 b3 a4, b4.trans a4, Arr.of a6 b5⟩
    ·cases h
end
end Go.AM
end
section
/- The abstract machine: a step of the whole is sound, if what it asks is. -/
set_option linter.unusedVariables false
set_option linter.unusedSimpArgs false
namespace Go.AM
noncomputable section
open Go.RowKit
theorem exitTo_inBlock (id i : Nat) (k : List Item) : exitTo id (.inBlock i :: k) = if i == id then some k else exitTo id k := rfl
theorem Arr.pass {P : Program} {E : Env} {x : X} {m : Machine} {b : Frame} {it : Item} {k : List Item} {tmps : Array Value} {df : List Deferred} {cs : List Frame} {w : World}
  (hx : ∀ id, exitTo id (it :: k) = exitTo id k) (hn : x ≠ .norm) (a : Arr P E x m b (it :: k) tmps df cs w) : Arr P E x m b k tmps df cs w := by
 cases x with
 | norm => exact absurd rfl hn
 | exit id => obtain ⟨k', e, s⟩ := a; exact ⟨k', e.trans (hx id), s⟩
 | ret => exact a
 | panic ch => exact a
theorem SItem.of_step {P : Program} {gl : List Nat} {fr : Fr} {it it2 : Item} {s : S} {x : X} {s' : S} (h : SItem P gl fr it2 s x s')
  (hs : ∀ (b : Frame) (tmps : Array Value) (df : List Deferred) (cs : List Frame) (k : List Item) (w : World), step P (lone (mkF b tmps (it :: k) df) cs w) = .next (lone (mkF b tmps (it2 :: k) df) cs w)) : SItem P gl fr it s x s' := by
 intro E w0 w b tmps df cs k st
 obtain ⟨E', tmps', df', cs', w', a1, a2, a3, a4, a5⟩ := h E w0 w b tmps df cs k st
 exact ⟨E', tmps', df', cs', w', a1, a2, a3, a4, Arr.of (.one (hs b tmps df cs k w)) a5⟩
theorem SItem.norm {P : Program} {gl : List Nat} {fr : Fr} {it : Item} {s : S} (hs : ∀ (b : Frame) (tmps : Array Value) (df : List Deferred) (cs : List Frame) (k : List Item) (w : World), step P (lone (mkF b tmps (it :: k) df) cs w) = .next (lone (mkF b tmps k df) cs w)) :
  SItem P gl fr it s .norm s := by
 intro E w0 w b tmps df cs k st
 exact ⟨E, tmps, df, cs, w, Ext.refl _ _, st, CS.refl st.uk, rfl, .one (hs b tmps df cs k w)⟩
theorem SItem.seq {P : Program} {gl : List Nat} {fr : Fr} {it it1 it2 : Item} {s s1 s' : S} {x : X} (h1 : SItem P gl fr it1 s .norm s1) (h2 : SItem P gl fr it2 s1 x s')
  (hs : ∀ (b : Frame) (tmps : Array Value) (df : List Deferred) (cs : List Frame) (k : List Item) (w : World), step P (lone (mkF b tmps (it :: k) df) cs w) = .next (lone (mkF b tmps (it1 :: it2 :: k) df) cs w)) : SItem P gl fr it s x s' := by
 intro E w0 w b tmps df cs k st
 obtain ⟨E1, t1, d1, c1, w1, a1, a2, a3, a4, a5⟩ := h1 E w0 w b tmps df cs (it2 :: k) st
 obtain ⟨E2, t2, d2, c2, w2, b1, b2, b3, b4, b5⟩ := h2 E1 w0 w1 b t1 d1 c1 k a2
 exact ⟨E2, t2, d2, c2, w2, a1.trans b1, b2, a3.trans b3 a4, b4.trans a4, Arr.of (Steps.head (hs b tmps df cs k w) a5) b5⟩
theorem SItem.stop {P : Program} {gl : List Nat} {fr : Fr} {it it1 it2 : Item} {s s' : S} {x : X} (h1 : SItem P gl fr it1 s x s') (hx : x ≠ .norm) (he : ∀ id k, exitTo id (it2 :: k) = exitTo id k)
  (hs : ∀ (b : Frame) (tmps : Array Value) (df : List Deferred) (cs : List Frame) (k : List Item) (w : World), step P (lone (mkF b tmps (it :: k) df) cs w) = .next (lone (mkF b tmps (it1 :: it2 :: k) df) cs w)) : SItem P gl fr it s x s' := by
 intro E w0 w b tmps df cs k st
 obtain ⟨E1, t1, d1, c1, w1, a1, a2, a3, a4, a5⟩ := h1 E w0 w b tmps df cs (it2 :: k) st
 exact ⟨E1, t1, d1, c1, w1, a1, a2, a3, a4, Arr.of (.one (hs b tmps df cs k w)) (Arr.pass (fun id => he id k) hx a5)⟩
theorem then_ok' {r : M Res} {k : S → M Res} {x : X} {s' : S} (h : then_ r k = .ok (.x x s')) : (∃ s1, r = .ok (.x .norm s1) ∧ k s1 = .ok (.x x s')) ∨ (r = .ok (.x x s') ∧ x ≠ .norm) := by
 unfold then_ at h
 split at h
 ·rename_i s; exact .inl ⟨s, rfl, h⟩
 ·rename_i hn
  exact .inr ⟨h, by rintro rfl; exact hn _ h⟩
theorem code_sound {C : Cfg} (pr : PrOk C) {rec : Req → M Res} (S : Sound C rec) (hdraw : ∀ (fr : Fr) (id : Nat) (ops : Array Oper) (s : AM.S) (x : X) (s' : AM.S), drawnOps C rec fr ops s = .ok (.x x s') → SItem C.P C.gl fr (.code (.region id ops true)) s x s')
  (hrf : ∀ (fr : Fr) (f : Operand) (ps : Array Tmp) (as bd : Code) (s : AM.S) (x : X) (s' : AM.S), stepR C rec (.code fr (.rangeFunc f ps as bd) s) = .ok (.x x s') → SItem C.P C.gl fr (.code (.rangeFunc f ps as bd)) s x s')
  {fr : Fr} {c : Code} {s : AM.S} {x : X} {s' : AM.S} (h : stepR C rec (.code fr c s) = .ok (.x x s')) : SItem C.P C.gl fr (.code c) s x s' ∧ ∀ d, c = .loop d → SItem C.P C.gl fr (.inLoop d) s x s' := by
 have hS : ∀ {fr c s x s'}, rec (.code fr c s) = .ok (.x x s') → SItem C.P C.gl fr (.code c) s x s' := fun h => (S.code _ _ _ _ _ h).1
 by_cases hl : ∃ d, c = .loop d
 ·obtain ⟨d, rfl⟩ := hl
  simp only [stepR] at h
  rcases then_ok' h with ⟨s1, h1, h2⟩ | ⟨h1, hx⟩
  ·have i2 := (S.code _ _ _ _ _ h2).2 d rfl
   refine ⟨SItem.seq (hS h1) i2 fun _ _ _ _ _ _ => st_loop, ?_⟩
   rintro d' e
   cases e
   exact SItem.seq (hS h1) i2 fun _ _ _ _ _ _ => st_inLoop
  ·refine ⟨SItem.stop (it2 := .inLoop d) (hS h1) hx (fun id k => rfl) fun _ _ _ _ _ _ => st_loop, ?_⟩
   rintro d' e
   cases e
   exact SItem.stop (it2 := .inLoop d) (hS h1) hx (fun id k => rfl) fun _ _ _ _ _ _ => st_inLoop
 refine ⟨?_, fun d e => absurd ⟨d, e⟩ hl⟩
 cases c with
 | skip => simp only [stepR] at h; cases h; exact SItem.norm fun _ _ _ _ _ _ => st_skip
 | label l => simp only [stepR] at h; cases h; exact SItem.norm fun _ _ _ _ _ _ => st_label
 | region id ops draw =>
  cases draw with
  | false =>
   simp only [stepR] at h
   exact SItem.of_step (seqOps_sound pr S _ _ (ix_range ops) s x s' h) fun _ _ _ _ _ _ => st_region
  | true => simp only [stepR] at h; exact hdraw fr id ops s x s' h
 | seq a d =>
  simp only [stepR] at h
  rcases then_ok' h with ⟨s1, h1, h2⟩ | ⟨h1, hx⟩
  ·exact SItem.seq (hS h1) (hS h2) fun _ _ _ _ _ _ => st_seq
  ·exact SItem.stop (it2 := .code d) (hS h1) hx (fun id k => rfl) fun _ _ _ _ _ _ => st_seq
 | cond y a d =>
  simp only [stepR] at h
  split at h
  ·rename_i he
   intro E w0 w b tmps df cs k st
   have hr := ev_sound st.gl st.tr he
   have hb : evT tmps y = .bool true := by cases hv : evT tmps y <;> rw [hv] at hr <;> cases hr; rfl
   obtain ⟨E', t', d', c', w', a1, a2, a3, a4, a5⟩ := hS h E w0 w b tmps df cs k st
   exact ⟨E', t', d', c', w', a1, a2, a3, a4, Arr.of (.one (st_cond hb)) a5⟩
  ·rename_i he
   intro E w0 w b tmps df cs k st
   have hr := ev_sound st.gl st.tr he
   have hb : evT tmps y = .bool false := by cases hv : evT tmps y <;> rw [hv] at hr <;> cases hr; rfl
   obtain ⟨E', t', d', c', w', a1, a2, a3, a4, a5⟩ := hS h E w0 w b tmps df cs k st
   exact ⟨E', t', d', c', w', a1, a2, a3, a4, Arr.of (.one (st_cond hb)) a5⟩
  ·cases h
 | block id d =>
  simp only [stepR] at h
  have go : ∀ y s2, rec (.code fr d s) = .ok (.x y s2) → ∀ (E : Env) (w0 w : World) (b : Frame) (tmps : Array Value) (df : List Deferred) (cs : List Frame) (k : List Item), StR C.gl E fr s b tmps df cs w0 w →
    ∃ E' tmps' df' cs' w', Ext E s.h E' s2.h ∧ StR C.gl E' fr s2 b tmps' df' cs' w0 w' ∧ CS s.u cs cs' ∧ s2.u.isSome = s.u.isSome ∧ Arr C.P E' y (lone (mkF b tmps (.code (.block id d) :: k) df) cs w) b (.inBlock id :: k) tmps' df' cs' w' := by
   intro y s2 hy E w0 w b tmps df cs k st
   obtain ⟨E', t', d', c', w', a1, a2, a3, a4, a5⟩ := hS hy E w0 w b tmps df cs (.inBlock id :: k) st
   exact ⟨E', t', d', c', w', a1, a2, a3, a4, Arr.of (.one st_block) a5⟩
  split at h
  ·rename_i i s2 hr
   intro E w0 w b tmps df cs k st
   obtain ⟨E', t', d', c', w', a1, a2, a3, a4, k', e, a5⟩ := go _ _ hr E w0 w b tmps df cs k st
   rw [exitTo_inBlock] at e
   split at h
   ·rename_i hi
    cases h
    subst hi
    rw [if_pos (by simp)] at e
    exact ⟨E', t', d', c', w', a1, a2, a3, a4, a5.trans (.one (st_exit e))⟩
   ·rename_i hi
    cases h
    rw [if_neg (by simpa using fun e => hi e.symm)] at e
    exact ⟨E', t', d', c', w', a1, a2, a3, a4, k', e, a5⟩
  ·rename_i hn
   intro E w0 w b tmps df cs k st
   obtain ⟨E', t', d', c', w', a1, a2, a3, a4, a5⟩ := go _ _ h E w0 w b tmps df cs k st
   refine ⟨E', t', d', c', w', a1, a2, a3, a4, ?_⟩
   cases x with
   | norm => exact a5.trans (.one st_inBlock)
   | exit i => exact absurd h (hn _ _)
   | ret => exact a5
   | panic ch => exact a5
 | scope d =>
  simp only [stepR] at h
  intro E w0 w b tmps df cs k st
  obtain ⟨E', t', d', c', w', a1, a2, a3, a4, a5⟩ := hS h E w0 w b tmps df cs (.inScope d :: k) st
  refine ⟨E', t', d', c', w', a1, a2, a3, a4, Arr.of (.one st_scope) ?_⟩
  cases x with
  | norm => exact a5.trans (.one st_inScope)
  | exit i => obtain ⟨k', e, s⟩ := a5; exact ⟨k', e, s⟩
  | ret => exact a5
  | panic ch => exact a5
 | loop d => exact absurd ⟨d, rfl⟩ hl
 | exit id =>
  simp only [stepR] at h; cases h
  intro E w0 w b tmps df cs k st
  exact ⟨E, tmps, df, cs, w, Ext.refl _ _, st, CS.refl st.uk, rfl, k, rfl, Steps.refl _ _⟩
 | ret =>
  simp only [stepR] at h; cases h
  intro E w0 w b tmps df cs k st
  exact ⟨E, tmps, df, cs, w, Ext.refl _ _, st, CS.refl st.uk, rfl, k, Steps.refl _ _⟩
 | rangeFunc f ps assign body =>
  exact hrf _ _ _ _ _ _ _ _ h
 | goto l => simp [stepR] at h
 | refuse y => simp [stepR] at h
end
end Go.AM
end
section
/- The abstract machine: loops over functions. -/
set_option linter.unusedVariables false
set_option linter.unusedSimpArgs false
namespace Go.AM
noncomputable section
open Go.RowKit
variable {P : Program}
section
variable {b : Frame} {tmps : Array Value} {df : List Deferred} {k : List Item} {cs : List Frame} {w : World}
theorem st_rangeFunc {f : Operand} {ps : Array Tmp} {as bd : Code} {g : FuncId} {fi cp : Array Value} {fn : Func} (hro : b.roundOf = none) (hf : evT tmps f = .func (.func g) fi cp) (hfn : P.funcs[g]? = some fn) (hb : fn.body.isSome = true) (hn : (fn.name == "runtime.NumGoroutine") = false) :
  step P (lone (mkF b tmps (.code (.rangeFunc f ps as bd) :: k) df) cs w) =
   .next (lone (Frame.enter P g ((fi ++ #[.func (.yield (w.heap.size + 1)) #[] #[]]) ++ cp) .normal) (mkF b tmps (.inRangeFunc (w.heap.size + 1) :: k) ({ target := .collected w.heap.size, args := #[] } :: df) :: cs)
    { w with heap := (w.heap.push (.deferred (some []))).push (.loop { state := .ready, pending := none, fn := b.fn, tmps, params := ps, assign := as, body := bd, defers := w.heap.size }) }) := by
 have he := mkF_eval b tmps (.inRangeFunc (w.heap.size + 1) :: k) ({ target := .collected w.heap.size, args := #[] } :: df)
 have hcf := run_callFunc (P := P) hfn hb hn
 have hrs : ∀ w' : World, (resolve (evT tmps) { callee := .value f, args := #[.const (.func (.yield (w.heap.size + 1)) #[] #[])], argTypes := #[] } 0).run P w' = .ok { target := .fn (.func g) cp, args := fi ++ #[.func (.yield (w.heap.size + 1)) #[] #[]] } w' := by
  intro w'
  simp only [resolve, hf, Deferred.ofValue, Sem.run_pure]
  congr 2
  congr 1
  simp [evT]
 have hinv : ∀ w' : World, (invoke (.fn (.func g) cp) (fi ++ #[.func (.yield (w.heap.size + 1)) #[] #[]])).run P w' = .ok (.enter g ((fi ++ #[.func (.yield (w.heap.size + 1)) #[] #[]]) ++ cp)) w' := by
  intro w'
  simp only [invoke]; exact hcf _ _
 simp only [mkF, hro] at he
 refine step_lone_go ?_
 simp [stepG, stepG.exec, mkF, hro, Instr.enterLoop, stepG.apply, he, hrs, hinv, -Array.append_singleton, -Array.push_append]
 rfl
theorem st_endRange {l : Nat} {jump : Option Code} {w' : World} (h : (Instr.endLoop l).run P w = .ok jump w') :
  step P (lone (mkF b tmps (.endRangeFunc l :: k) df) cs w) = .next (lone (mkF b tmps ((jump.map Item.code).toList ++ k) df) cs w') :=
 step_lone_go (by simp [stepG, stepG.exec, mkF, h])
end
theorem getObj_loop {w : World} {B : Nat} {L : Loop} (h : w.heap[B]? = some (.loop L)) : (getObj B).run P w = .ok (.loop L) w := by simp [getObj, Sem.run, h]
theorem setObj_any {w : World} {B : Nat} {ob : Go.Obj} (h : w.heap[B]? = some ob) (hc : ∀ c e f, ob ≠ .cells c e f) (o : Go.Obj) : (setObj B o).run P w = .ok () { w with heap := w.heap.setIfInBounds B o } := by
 cases ob <;> first | exact absurd rfl (hc _ _ _) | simp [setObj, Sem.run, h]
theorem big_of {E : Env} {h : H} {w0 w : World} (m : MR E h w0 w) {b : Nat} {o : Obj} (hb : h.get b = some o) (hc : ∀ op cs, o ≠ .cells op cs) : glim ≤ b := by
 rcases Nat.lt_or_ge b glim with g | g
 ·obtain ⟨op, cs, e⟩ := m.glb b _ g hb; exact absurd e (hc _ _)
 ·exact g
theorem obj_put {E : Env} {h : H} {w0 w : World} (m : MR E h w0 w) {b : Nat} {o o' : Obj} {p : Place} {co co' : Go.Obj} (hb : h.get b = some o) (hg : glim ≤ b) (hE : E b = some p) (hw : w.heap[p.blk]? = some co)
  (hr : ObjR E o' p { w with heap := w.heap.setIfInBounds p.blk co' }) :
  MR E (h.put b o') w0 { w with heap := w.heap.setIfInBounds p.blk co' } ∧ Ext E h E (h.put b o') := by
 refine put_sound m hb hE hg (fun k hk => ?_) (by simp) rfl rfl rfl hr
 rw [Array.getElem?_setIfInBounds, if_neg (fun e => hk e.symm)]
theorem set_same {w : World} {B : Nat} {co co' : Go.Obj} (h : w.heap[B]? = some co) : (w.heap.setIfInBounds B co')[B]? = some co' := by
 have : B < w.heap.size := (Array.getElem?_eq_some_iff.1 h).1
 simp [this]
theorem push_last (h : Array Go.Obj) (x : Go.Obj) : (h.push x)[h.size]? = some x := by simp
theorem obj_new {E : Env} {h h' : H} {w0 w : World} (m : MR E h w0 w) {b : Nat} {o : Obj} (hn : h.new o = some (b, h')) (co : Go.Obj) (hr : ∀ E' : Env, E.le E' → ObjR E' o ⟨w.heap.size, 0, 0⟩ { w with heap := w.heap.push co }) :
  ∃ E', E' b = some ⟨w.heap.size, 0, 0⟩ ∧ Ext E h E' h' ∧ MR E' h' w0 { w with heap := w.heap.push co } := by
 obtain ⟨m1, x1, hEb, hget, hlt, hgb, hbn⟩ := ghost_new m hn
 have hle := upd_le (p := ⟨w.heap.size, 0, 0⟩) hEb
 refine ⟨upd E b ⟨w.heap.size, 0, 0⟩, by unfold upd; rw [if_pos rfl], ⟨hle, fun k hk => by unfold upd; rw [if_neg (by omega)], x1.nxt, x1.ghost⟩, ?_⟩
 exact place_sound m1 hlt hEb hgb co rfl fun o ho => by rw [hget] at ho; cases ho; exact hr _ hle
theorem rangeFunc_sound {C : Cfg} (pr : PrOk C) {rec : Req → M Res} (S : Sound C rec) {fr : Fr} {f : Operand} {ps : Array Tmp} {as bd : Code} {s : AM.S} {x : X} {s' : AM.S}
  (h : stepR C rec (.code fr (.rangeFunc f ps as bd) s) = .ok (.x x s')) : SItem C.P C.gl fr (.code (.rangeFunc f ps as bd)) s x s' := by
 simp only [stepR] at h
 split at h
 ·rename_i g first cap r h1 hr hf hn1
  split at h
  ·cases h
  ·rename_i l h2 hn2
   intro E w0 w b tmps df cs k st
   have hro : b.roundOf = none := by have := st.fr.rnd; rw [hr] at this; exact this
   have rf := ev_sound st.gl st.tr hf
   cases hfv : evT tmps f <;> rw [hfv] at rf <;> cases rf
   rename_i fi cp ra rc
   obtain ⟨E1, e1, x1, m1⟩ := obj_new st.mr hn1 (.deferred (some [])) fun E' hE' => ⟨[], by simp, .nil⟩
   let Lc : Loop := { state := .ready, pending := none, fn := b.fn, tmps, params := ps, assign := as, body := bd, defers := w.heap.size }
   obtain ⟨E2, e2, x2, m2⟩ := obj_new m1 hn2 (.loop Lc) fun E' hE' => ⟨Lc, push_last _ _, rfl, rfl, st.fr.fn, rfl, rfl, rfl, (st.tr.mono x1.le).mono hE'⟩
   have hsz : (w.heap.push (.deferred (some []))).size = w.heap.size + 1 := by simp
   have e1' := x2.le _ _ e1
   have x12 := x1.trans x2
   have st2 := st.mono x12 m2
   have hmark : ADR E2 (.collected r) { target := .collected w.heap.size, args := #[] } := .collected r _ e1'
   have rargs : ARs E2 ((first ++ [.fn (.yield l) [] []]) ++ cap) ((fi ++ #[Value.func (.yield (w.heap.size + 1)) #[] #[]]) ++ cp).toList := by
    have hy : AR E2 (.fn (.yield l) [] []) (.func (.yield (w.heap.size + 1)) #[] #[]) := by
     have := AR.yld (E := E2) l _ e2
     simpa using this
    simp only [Array.toList_append]
    exact ((ra.mono x12.le).append (.cons _ _ _ _ hy .nil)).append (rc.mono x12.le)
   let cf := mkF b tmps (.inRangeFunc (w.heap.size + 1) :: k) ({ target := .collected w.heap.size, args := #[] } :: df)
   split at h
   ·cases h
   ·cases h
   ·rename_i ch u3 h3 hrec
    cases h
    obtain ⟨sc, fn, hfn, hb⟩ := S.call _ _ _ _ _ _ _ hrec
    obtain ⟨E3, w3, cs3, fr3, x3, m3, uk3, cse, hu, steps, q1, q2, q3, q4, ch', fn3, hm, hch, hfn3⟩ := sc E2 w0 _ _ .normal (cf :: cs) m2 st2.gl rargs rfl
    have hcs : cs3 = cf :: cs := cse
    subst hcs
    have hs0 := st_rangeFunc (P := C.P) (w := w) (k := k) (cs := cs) (df := df) (ps := ps) (as := as) (bd := bd) hro hfv hfn hb (pr.names _ _ hfn hb)
    have hleave : fr3.leaving C.P w3 (.panicked ch') := ⟨hm, q4, fn3, hfn3⟩
    have hs := step_leave_panicked (cs := cs) (c := cf) hleave
    have st3 := st2.mono x3 m3
    refine ⟨E3, tmps, _, cs, w3, x12.trans x3, ⟨m3, st3.tr, .cons (hmark.mono x3.le) st3.dr, st3.uk, st3.fr, st3.gl⟩, CS.refl st.uk, rfl, .inRangeFunc (w.heap.size + 1) :: k, ch', hch, ?_⟩
    exact .head hs0 (steps.trans (.one hs))
   ·rename_i v3 u3 h3 hrec
    obtain ⟨sc, fn, hfn, hb⟩ := S.call _ _ _ _ _ _ _ hrec
    obtain ⟨E3, w3, cs3, fr3, x3, m3, uk3, cse, hu, steps, q1, q2, q3, q4, hm, fn3, v', hfn3, hres, hav⟩ := sc E2 w0 _ _ .normal (cf :: cs) m2 st2.gl rargs rfl
    have hcs : cs3 = cf :: cs := cse
    subst hcs
    have hs0 := st_rangeFunc (P := C.P) (w := w) (k := k) (cs := cs) (df := df) (ps := ps) (as := as) (bd := bd) hro hfv hfn hb (pr.names _ _ hfn hb)
    have hleave : fr3.leaving C.P w3 (.returned v') := ⟨hm, q4, q2, fn3, hfn3, hres⟩
    have hs := step_leave_returned (cs := cs) (c := cf) hleave
    have hfin : cf.finish v' = mkF b tmps (.endRangeFunc (w.heap.size + 1) :: k) ({ target := .collected w.heap.size, args := #[] } :: df) := rfl
    rw [hfin] at hs
    have st3 := st2.mono x3 m3
    have hsteps : Steps C.P (lone (mkF b tmps (.code (.rangeFunc f ps as bd) :: k) df) cs w) (lone (mkF b tmps (.endRangeFunc (w.heap.size + 1) :: k) ({ target := .collected w.heap.size, args := #[] } :: df)) cs w3) :=
     .head hs0 (steps.trans (.one hs))
    split at h
    ·rename_i lp hl
     split at h
     ·cases h
     ·rename_i hbusy
      have e3 := x3.le _ _ e2
      have hgl := big_of m3 hl (fun op cs e => by cases e)
      obtain ⟨L, k1, k2, k3, k4, k5, k6, k7, k8⟩ := m3.obj l _ _ hl e3
      have k1' : w3.heap[w.heap.size + 1]? = some (.loop L) := by simpa using k1
      obtain ⟨m4, x4⟩ := obj_put m3 (co' := .loop { L with state := .exhausted }) hl hgl e3 k1 (o' := .loop { lp with state := .exhausted })
       ⟨{ L with state := .exhausted }, set_same k1, rfl, k3, k4, k5, k6, k7, k8⟩
      have hend : (Instr.endLoop (w.heap.size + 1)).run C.P w3 = .ok lp.pending { w3 with heap := w3.heap.setIfInBounds (w.heap.size + 1) (.loop { L with state := .exhausted }) } := by
       have hbs : (L.state == LoopState.busy) = false := by rw [k2]; simpa using hbusy
       have hset := setObj_any (P := C.P) k1' (fun _ _ _ e => by cases e) (.loop { L with state := .exhausted })
       rw [← k3]
       simp only [Instr.endLoop, Instr.getLoop, Sem.run_bind, getObj_loop k1', Result.andThen_ok, Sem.run_pure, hbs, Bool.false_eq_true, if_false, hset]
      have hs4 := st_endRange (b := b) (tmps := tmps) (df := { target := .collected w.heap.size, args := #[] } :: df) (k := k) (cs := cs) hend
      have st4 := st3.mono x4 m4
      have stF : StR C.gl E3 fr { s with df := .collected r :: s.df, h := h3.put l (.loop { lp with state := .exhausted }) } b tmps ({ target := .collected w.heap.size, args := #[] } :: df) cs w0 _ :=
       ⟨m4, st4.tr, .cons (hmark.mono x3.le) st4.dr, st4.uk, st4.fr, st4.gl⟩
      have heq : (⟨w.heap.size + 1, 0, 0⟩ : Place) = ⟨(w.heap.push (.deferred (some []))).size, 0, 0⟩ := by simp
      split at h
      ·rename_i hp
       cases h
       rw [hp] at hs4
       refine ⟨E3, tmps, _, cs, _, (x12.trans x3).trans x4, stF, CS.refl st.uk, rfl, ?_⟩
       have := hsteps.trans (.one hs4)
       show Steps _ _ _
       simpa using this
      ·rename_i hp
       cases h
       rw [hp] at hs4
       refine ⟨E3, tmps, _, cs, _, (x12.trans x3).trans x4, stF, CS.refl st.uk, rfl, k, ?_⟩
       have := hsteps.trans (.one hs4)
       simpa using this
      ·rename_i id hp
       cases h
       rw [hp] at hs4
       refine ⟨E3, tmps, _, cs, _, (x12.trans x3).trans x4, stF, CS.refl st.uk, rfl, k, rfl, ?_⟩
       have := hsteps.trans (.one hs4)
       simpa using this
      ·cases h
    ·cases h
 ·cases h
section
variable {b : Frame} {tmps : Array Value} {df : List Deferred} {k : List Item} {cs : List Frame} {w : World}
theorem st_fall (hro : b.roundOf = none) : step P (lone (mkF b tmps [] df) cs w) = .next (lone { mkF b tmps [] df with mode := .returning } cs w) :=
 step_lone_go (by simp [stepG, stepG.exec, mkF, hro])
theorem st_ret (hro : b.roundOf = none) : step P (lone (mkF b tmps (.code .ret :: k) df) cs w) = .next (lone { mkF b tmps (.code .ret :: k) df with mode := .returning } cs w) :=
 step_lone_go (by simp [stepG, stepG.exec, mkF, hro])
end
theorem setAll_get {E : Env} : ∀ (vs : List V) (vs' : List Value), ARs E vs vs' → ∀ (i : Nat) (tm : T V), i + vs.length ≤ lim → ∀ t v, (setAll tm i vs).get t = some v →
  (tm.get t = some v) ∨ ∃ v', i ≤ t ∧ vs'[t - i]? = some v' ∧ AR E v v'
 | _, _, .nil, i, tm, h, t, v, ht => .inl ht
 | _, _, .cons a a' l l' ha hl, i, tm, h, t, v, ht => by
  simp only [List.length_cons] at h
  rcases setAll_get l l' hl (i + 1) _ (by omega) t v ht with h1 | ⟨v', h1, h2, h3⟩
  ·rw [T.get_set _ _ _ _ _ (fu_lim (by omega))] at h1
   split at h1
   ·rename_i e; cases h1; subst e; exact .inr ⟨a', Nat.le_refl _, by simp, ha⟩
   ·exact .inl h1
  ·refine .inr ⟨v', by omega, ?_, h3⟩
   rw [show t - i = (t - (i + 1)) + 1 by omega]; simpa using h2
theorem call_sound {C : Cfg} (pr : PrOk C) {rec : Req → M Res} (S : Sound C rec) {f : FuncId} {args : List V} {u : Option AMode} {h : H} {r : AEnd} {u' : Option AMode} {h' : H}
  (hs : stepR C rec (.call f args u h) = .ok (.e r u' h')) : SCall C.P C.gl f args u h r u' h' ∧ ∃ fn, C.P.funcs[f]? = some fn ∧ fn.body.isSome = true := by
 simp only [stepR] at hs
 split at hs
 ·cases hs
 ·rename_i fn hfn
  split at hs
  ·cases hs
  ·rename_i body hbody
   split at hs
   ·cases hs
   ·rename_i hle
    simp only [Bool.and_eq_true] at hle
    have hl1 := Nat.le_of_ble_eq_true hle.1
    have hl2 := Nat.le_of_ble_eq_true hle.2
    refine ⟨?_, fn, hfn, by rw [hbody]; rfl⟩
    intro E w0 w args' kind cs m g ra huk
    let b : Frame := { (default : Frame) with fn := f, kind := kind }
    have hlen : args'.size = args.length := by rw [ra.length]; simp
    let tmps := args' ++ Array.replicate (fn.ntmps - args'.size) undef
    have henter : Frame.enter C.P f args' kind = mkF b tmps [.code body] [] := by
     simp only [Frame.enter, mkF, hfn, b, tmps]
     simp [hbody]; rfl
    have hro : b.roundOf = none := rfl
    have st : StR C.gl E ⟨fn.ntmps, none, f⟩ ⟨setAll .leaf 0 args, [], u, h⟩ b tmps [] cs w0 w := by
     refine ⟨m, ⟨by simp [tmps]; omega, fun t v ht => ?_⟩, .nil, ?_, ⟨hl2, rfl, rfl⟩, g⟩
     ·rcases setAll_get args args'.toList ra 0 .leaf (by omega) t v ht with h1 | ⟨v', h1, h2, h3⟩
      ·rw [T.get_leaf] at h1; cases h1
      ·have h2' : args'[t]? = some v' := by simpa using h2
       have : t < args'.size := (Array.getElem?_eq_some_iff.1 h2').1
       exact ⟨v', by simp only [tmps]; rw [Array.getElem?_append_left this]; exact h2', h3⟩
     ·cases u with
      | none => exact huk
      | some mm => exact huk
    have fin : ∀ (s : AM.S) (md : AMode) (fr1 : Frame) (E1 : Env) (c1 : List Frame) (w1 : World), C.P = C.P → rec (.leave fn s.tm s.df md s.u s.h) = .ok (.e r u' h') → Ext E h E1 s.h → MR E1 s.h w0 w1 → TR E1 fn.ntmps s.tm fr1.tmps → All₂ (ADR E1) s.df fr1.defers → ModeR E1 md fr1.mode → UK E1 s.u kind c1 →
      CS u cs c1 → s.u.isSome = u.isSome → fr1.kind = kind → fr1.fn = f → fr1.roundOf = none → Steps C.P (lone (Frame.enter C.P f args' kind) cs w) (lone fr1 c1 w1) →
      ∃ E' w' cs' fr', Ext E h E' h' ∧ MR E' h' w0 w' ∧ UK E' u' kind cs' ∧ CS u cs cs' ∧ u'.isSome = u.isSome ∧ Steps C.P (lone (Frame.enter C.P f args' kind) cs w) (lone fr' cs' w') ∧
       fr'.fn = f ∧ fr'.kind = kind ∧ fr'.roundOf = none ∧ fr'.defers = [] ∧ LeaveR C.P E' r fr' w' := by
     intro s md fr1 E1 c1 w1 _ hrec x1 m1 t1 d1 mo1 u1 cs1 is1 hk hf hr0 st1
     subst hk
     obtain ⟨E2, w2, c2, fr2, a1, a2, a3, a4, a5, a6, a7, a8, a9, a10, a11⟩ := S.leave _ _ _ _ _ _ _ _ _ hrec E1 w0 w1 fr1 c1 fn.ntmps m1 (g.mono x1.le) t1 d1 mo1 u1 (by rw [hf]; exact hfn) hr0
     exact ⟨E2, w2, c2, fr2, x1.trans a1, a2, a3, CS.trans cs1 a4 is1, a5.trans is1, st1.trans a6, a7.trans hf, a8, a9, a10, a11⟩
    split at hs
    ·rename_i s hrec
     obtain ⟨E1, t1, d1, c1, w1, a1, a2, a3, a4, a5⟩ := (S.code _ _ _ _ _ hrec).1 E w0 w b tmps [] cs [] st
     exact fin s .ret _ E1 c1 w1 rfl hs a1 a2.mr a2.tr a2.dr .ret a2.uk a3 a4 rfl rfl rfl (by rw [henter]; exact a5.trans (.one (st_fall hro)))
    ·rename_i s hrec
     obtain ⟨E1, t1, d1, c1, w1, a1, a2, a3, a4, k', a5⟩ := (S.code _ _ _ _ _ hrec).1 E w0 w b tmps [] cs [] st
     exact fin s .ret _ E1 c1 w1 rfl hs a1 a2.mr a2.tr a2.dr .ret a2.uk a3 a4 rfl rfl rfl (by rw [henter]; exact a5.trans (.one (st_ret hro)))
    ·rename_i ch s hrec
     obtain ⟨E1, t1, d1, c1, w1, a1, a2, a3, a4, todo, ch', hch, a5⟩ := (S.code _ _ _ _ _ hrec).1 E w0 w b tmps [] cs [] st
     exact fin s (.pan ch) _ E1 c1 w1 rfl hs a1 a2.mr a2.tr a2.dr (.pan _ _ hch) a2.uk a3 a4 rfl rfl rfl (by rw [henter]; exact a5)
    ·cases hs
    ·cases hs
def resF (tmps : Array Value) : ResultVar → Sem Value
 | .tmp t => pure (tmps.getD t undef)
 | .cell a t => do loadVar t (← asAddr (tmps.getD a undef))
theorem resF_tmp (tmps : Array Value) (t : Nat) (w : World) : (resF tmps (.tmp t)).run P w = .ok (tmps.getD t undef) w := rfl
theorem resF_cell {tmps : Array Value} {a : Nat} {t : TypeId} {A : Addr} (h : tmps.getD a undef = .pointer (some A)) (w : World) : (resF tmps (.cell a t)).run P w = (loadVar t A).run P w := by
 simp only [resF, h, asAddr, Sem.run_bind, Sem.run_pure, Result.andThen_ok]
theorem resV_sound {C : Cfg} {E : Env} {h : H} {w0 w : World} {nt : Nat} {tm : T V} {tmps : Array Value} (m : MR E h w0 w) (r : TR E nt tm tmps) : ∀ {rs : List ResultVar} {vs : List V}, resV C h tm rs = some vs →
  ∃ vs' : List Value, (rs.mapM (m := Sem) (resF tmps)).run C.P w = .ok vs' w ∧ ARs E vs vs'
 | [], vs, hv => by simp [resV] at hv; subst hv; exact ⟨[], rfl, .nil⟩
 | .tmp t :: rs, vs, hv => by
  simp only [resV] at hv
  split at hv
  ·rename_i v l ht hl
   cases hv
   obtain ⟨v', a1, a2⟩ := r.2 t v ht
   obtain ⟨l', b1, b2⟩ := resV_sound m r hl
   refine ⟨v' :: l', ?_, .cons _ _ _ _ a2 b2⟩
   rw [List.mapM_cons]
   have hg : tmps.getD t undef = v' := by simp [Array.getD_eq_getD_getElem?, a1]
   simp only [Sem.run_bind, resF_tmp, hg, Sem.run_pure, Result.andThen_ok, b1]
  ·cases hv
 | .cell a t :: rs, vs, hv => by
  simp only [resV] at hv
  split at hv
  ·rename_i b o l ht hl
   obtain ⟨v', a1, a2⟩ := r.2 a _ ht
   obtain ⟨l', b1, b2⟩ := resV_sound m r hl
   cases a2 with
   | ptr _ _ p hE =>
   have hget : tmps.getD a undef = .pointer (some ⟨p.blk, p.off + o, none⟩) := by simp [Array.getD_eq_getD_getElem?, a1]
   split at hv
   ·rename_i hagg
    split at hv
    ·rename_i n hn
     split at hv
     ·rename_i cs hcs
      cases hv
      obtain ⟨l2, h1, h2, _⟩ := rdN_sound (P := C.P) m hE hcs
      refine ⟨.agg l2.toArray :: l', ?_, .cons _ _ _ _ (.agg _ _ h2) b2⟩
      rw [List.mapM_cons]
      simp only [Sem.run_bind, resF_cell hget, loadVar, Sem.run_pure, Result.andThen_ok, run_isAggT hagg, if_true, run_szT hn, h1, b1]
     ·cases hv
    ·cases hv
   ·rename_i hagg
    split at hv
    ·rename_i v hv1
     cases hv
     obtain ⟨v2, h1, h2, _⟩ := rd_sound m hE hv1
     refine ⟨v2 :: l', ?_, .cons _ _ _ _ h2 b2⟩
     rw [List.mapM_cons]
     simp only [Sem.run_bind, resF_cell hget, loadVar, Sem.run_pure, Result.andThen_ok, run_isAggT hagg, Bool.false_eq_true, if_false, run_load, h1, b1]
    ·cases hv
   ·cases hv
  ·cases hv
theorem results_sound {C : Cfg} {E : Env} {h : H} {w0 w : World} {nt : Nat} {tm : T V} {tmps : Array Value} (m : MR E h w0 w) (r : TR E nt tm tmps) {fn : Func} {vs : List V} (hv : resV C h tm fn.results.toList = some vs) :
  ∃ v', (results fn tmps).run C.P w = .ok v' w ∧ AR E (retV vs) v' := by
 obtain ⟨vs', h1, h2⟩ := resV_sound (C := C) m r hv
 have hm : (fn.results.mapM (m := Sem) (resF tmps)).run C.P w = .ok vs'.toArray w := by
  rw [Array.mapM_eq_mapM_toList, Sem.run_map, h1]; rfl
 have hres : results fn tmps = (do let vs ← fn.results.mapM (resF tmps); pure (if h : vs.size = 1 then vs[0] else .tuple vs)) := by
  unfold results
  congr 2
 refine ⟨if h : vs'.toArray.size = 1 then vs'.toArray[0] else .tuple vs'.toArray, ?_, ?_⟩
 ·rw [hres]
  simp only [Sem.run_bind, hm, Result.andThen_ok, Sem.run_pure]
 ·cases h2 with
  | nil => exact AR.tup (E := E) [] #[] .nil
  | cons v v' l l' hv2 ht => cases ht with
   | nil => simpa [retV] using hv2
   | cons a a' l l' ha hl =>
    have h0 : ¬ ((v' :: a' :: l').toArray.size = 1) := by simp
    rw [dif_neg h0]
    exact AR.tup (E := E) (v :: a :: l) (v' :: a' :: l').toArray (.cons _ _ _ _ hv2 (.cons _ _ _ _ ha hl))
end
end Go.AM
end
section
/- The abstract machine: leaving a function, and rounds. -/
set_option linter.unusedVariables false
set_option linter.unusedSimpArgs false
namespace Go.AM
noncomputable section
open Go.RowKit
variable {P : Program}
theorem no_goexit {E : Env} : ∀ {ch : List PE} {ch' : List PanicEntry}, All₂ (PER E) ch ch' → ch'.dropWhile (!·.goexit) = []
 | _, _, .nil => rfl
 | _, _, .cons h t => by cases h; simp [List.dropWhile, no_goexit t]
theorem settle_sound {E : Env} {m : AMode} {m' : FrameMode} (r : ModeR E m m') : ModeR E (settleA m) (settle m') := by
 cases r with
 | ret => exact .ret
 | pan ch ch' h =>
  cases h with
  | nil => exact .pan [] [] .nil
  | cons h t =>
   cases h with
   | mk v v' b hv =>
    cases b with
    | true => simp only [settle, no_goexit t, settleA]; exact .ret
    | false => exact .pan _ _ (.cons (.mk v v' false hv) t)
theorem raised_sound {E : Env} {m : AMode} {m' : FrameMode} {ch : List PE} {ch' : List PanicEntry} (r : ModeR E m m') (h : All₂ (PER E) ch ch') : ModeR E (raisedA m ch) (raised m' ch') := by
 cases r with
 | ret => exact .pan _ _ h
 | pan o o' ho => exact .pan _ _ (h.append ho)
theorem modeR_run {E : Env} {m : AMode} {m' : FrameMode} (r : ModeR E m m') : m' ≠ .run := by cases r <;> simp
theorem st_collected {fr : Frame} {cs : List Frame} {w w' : World} {blk : Nat} {args : Array Value} {ds calls : List Deferred} (hm : fr.mode ≠ .run) (hd : fr.defers = { target := .collected blk, args } :: ds) (h : (Instr.takeDeferred blk).run P w = .ok calls w') :
  step P (lone fr cs w) = .next (lone { fr with defers := calls ++ ds } cs w') := by
 refine step_lone_go ?_
 cases hmode : fr.mode with
 | run => exact absurd hmode hm
 | returning => simp [stepG, unwind, hmode, hd, h]
 | panicking chain => simp [stepG, unwind, hmode, hd, h]
theorem leave_sound {C : Cfg} (pr : PrOk C) {rec : Req → M Res} (S : Sound C rec) {fn : Func} {tm : T V} {df : List AD} {m : AMode} {u : Option AMode} {h : H} {r : AEnd} {u' : Option AMode} {h' : H}
  (hs : stepR C rec (.leave fn tm df m u h) = .ok (.e r u' h')) : SLeave C.P C.gl fn tm df m u h r u' h' := by
 intro E w0 w fr cs nt mr g tr dr mo uk hfn hro
 simp only [stepR] at hs
 split at hs
 ·have hd : fr.defers = [] := by cases hdd : fr.defers with | nil => rfl | cons a l => rw [hdd] at dr; cases dr
  split at hs
  ·rename_i ch
   cases hs
   cases hmm : fr.mode <;> rw [hmm] at mo <;> cases mo
   rename_i ch' hch
   exact ⟨E, w, cs, fr, Ext.refl _ _, mr, uk, CS.refl uk, rfl, Steps.refl _ _, rfl, rfl, hro, hd, ch', fn, hmm, hch, hfn⟩
  ·cases hmm : fr.mode <;> rw [hmm] at mo <;> cases mo
   have go : ∀ vs, resV C h tm fn.results.toList = some vs → r = .ret (retV vs) → u' = u → h' = h →
     ∃ E' w' cs' fr', Ext E h E' h' ∧ MR E' h' w0 w' ∧ UK E' u' fr.kind cs' ∧ CS u cs cs' ∧ u'.isSome = u.isSome ∧ Steps C.P (lone fr cs w) (lone fr' cs' w') ∧
      fr'.fn = fr.fn ∧ fr'.kind = fr.kind ∧ fr'.roundOf = none ∧ fr'.defers = [] ∧ LeaveR C.P E' r fr' w' := by
    rintro vs hv rfl rfl rfl
    obtain ⟨v', h1, h2⟩ := results_sound (C := C) mr tr hv
    exact ⟨E, w, cs, fr, Ext.refl _ _, mr, uk, CS.refl uk, rfl, Steps.refl _ _, rfl, rfl, hro, hd, hmm, fn, v', hfn, h1, h2⟩
   split at hs
   ·rename_i vs hv; cases hs; exact go _ hv rfl rfl rfl
   ·cases hs
 ·rename_i rid ds
  split at hs
  ·rename_i ccs hget
   cases hdd : fr.defers with
   | nil => rw [hdd] at dr; cases dr
   | cons d0 ds' =>
    rw [hdd] at dr
    cases dr with
    | cons hd0 hds =>
     cases hd0 with
     | collected _ p hE =>
      obtain ⟨calls, k1, k2⟩ := mr.obj rid _ p hget hE
      have hgl := big_of mr hget (fun op cs e => by cases e)
      obtain ⟨m4, x4⟩ := obj_put mr (co' := .deferred none) hget hgl hE k1 (o' := .dfr none) ⟨none, set_same k1⟩
      have htake : (Instr.takeDeferred p.blk).run C.P w = .ok calls { w with heap := w.heap.setIfInBounds p.blk (.deferred none) } := by
       have hget' : (getObj p.blk).run C.P w = .ok (.deferred (some calls)) w := by simp [getObj, Sem.run, k1]
       have hset := setObj_any (P := C.P) k1 (fun _ _ _ e => by cases e) (.deferred none)
       simp only [Instr.takeDeferred, Sem.run_bind, hget', Result.andThen_ok, hset, Sem.run_pure]
      have hst := st_collected (P := C.P) (cs := cs) (modeR_run mo) hdd htake
      obtain ⟨E2, w2, c2, fr2, a1, a2, a3, a4, a5, a6, a7, a8, a9, a10, a11⟩ := S.leave _ _ _ _ _ _ _ _ _ hs E w0 _ { fr with defers := calls ++ ds' } cs nt m4 g tr (k2.append hds) mo uk hfn hro
      exact ⟨E2, w2, c2, fr2, x4.trans a1, a2, a3, a4, a5, .head hst a6, a7, a8, a9, a10, a11⟩
  ·cases hs
 ·rename_i f cap args ds
  cases hdd : fr.defers with
  | nil => rw [hdd] at dr; cases dr
  | cons d0 ds' =>
   rw [hdd] at dr
   cases dr with
   | cons hd0 hds =>
    cases hd0 with
    | call _ _ _ c' a' hc ha =>
     have rargs : ARs E (args ++ cap) (a' ++ c').toList := by rw [Array.toList_append]; exact ha.append hc
     let fr1 : Frame := { fr with defers := ds' }
     have huk : UK E (some m) .deferred (fr1 :: cs) := ⟨rfl, fr1, cs, rfl, mo⟩
     have go : ∀ (q : AEnd) (m2 : AMode) (h2 : H), rec (.call f (args ++ cap) (some m) h) = .ok (.e q (some m2) h2) → ∀ (m3 : AMode), rec (.leave fn tm ds m3 u h2) = .ok (.e r u' h') →
       (match q with | .ret _ => m3 = settleA m2 | .pan ch => m3 = raisedA m2 ch) →
       ∃ E' w' cs' fr', Ext E h E' h' ∧ MR E' h' w0 w' ∧ UK E' u' fr.kind cs' ∧ CS u cs cs' ∧ u'.isSome = u.isSome ∧ Steps C.P (lone fr cs w) (lone fr' cs' w') ∧
        fr'.fn = fr.fn ∧ fr'.kind = fr.kind ∧ fr'.roundOf = none ∧ fr'.defers = [] ∧ LeaveR C.P E' r fr' w' := by
      intro q m2 h2 hrec m3 hlv hm3
      obtain ⟨sc, fn1, hfn1, hb1⟩ := S.call _ _ _ _ _ _ _ hrec
      obtain ⟨E2, w2, c2, fr2, x2, mr2, uk2, cs2, is2, steps2, b1, b2, b3, b4, lv⟩ := sc E w0 w _ .deferred (fr1 :: cs) mr g rargs huk
      obtain ⟨c, rst, mm, e1, e2⟩ := cs2
      cases e1
      subst e2
      obtain ⟨_, c3, rst3, e3, mo2⟩ := uk2
      cases e3
      have hinv : (invoke (.fn (.func f) c') a').run C.P w = .ok (.enter f (a' ++ c')) w := by
       simp only [invoke]; exact run_callFunc hfn1 hb1 (pr.names _ _ hfn1 hb1) _ _
      have hst0 := step_defer (P := C.P) (cs := cs) (modeR_run mo) hdd rfl hinv
      have last : ∃ mx : FrameMode, ModeR E2 m3 mx ∧ Steps C.P (lone fr cs w) (lone { fr1 with mode := mx } cs w2) := by
       cases q with
       | ret v =>
        obtain ⟨hm, fnr, v', hfnr, hres, hav⟩ := lv
        have hgo : fr2.going C.P w2 (.returned v') := ⟨hm, b4, fnr, hfnr, hres⟩
        have hs2 := step_going_returned (cs := cs) (c := { fr1 with mode := mm }) b2 hgo
        exact ⟨settle mm, by rw [hm3]; exact settle_sound mo2, .head hst0 (steps2.trans (.one hs2))⟩
       | pan ch =>
        obtain ⟨ch', fnr, hm, hch, hfnr⟩ := lv
        have hgo : fr2.going C.P w2 (.panicked ch') := ⟨hm, b4, fnr, hfnr⟩
        have hs2 := step_going_panicked (cs := cs) (c := { fr1 with mode := mm }) hgo
        exact ⟨raised mm ch', by rw [hm3]; exact raised_sound mo2 hch, .head hst0 (steps2.trans (.one hs2))⟩
      obtain ⟨mx, hmx, hsteps⟩ := last
      obtain ⟨E4, w4, c4, fr4, a1, a2, a3, a4, a5, a6, a7, a8, a9, a10, a11⟩ := S.leave _ _ _ _ _ _ _ _ _ hlv E2 w0 w2 { fr1 with mode := mx } cs nt mr2 (g.mono x2.le) (tr.mono x2.le) (hds.mono fun _ _ => ADR.mono x2.le) hmx (uk.mono x2.le) hfn hro
      exact ⟨E4, w4, c4, fr4, x2.trans a1, a2, a3, a4, a5, hsteps.trans a6, a7, a8, a9, a10, a11⟩
     split at hs
     ·rename_i v m2 h2 hrec
      exact go _ _ _ hrec _ hs rfl
     ·rename_i ch m2 h2 hrec
      exact go _ _ _ hrec _ hs rfl
     ·cases hs
     ·cases hs
 ·cases hs
section
variable {b : Frame} {tmps : Array Value} {k : List Item} {c : Frame} {cs : List Frame} {w w' : World} {L : Nat}
theorem st_begin (hro : b.roundOf = some L) (h : (Instr.beginRound L).run P w = .ok () w') : step P (lone (mkF b tmps (.beginRound :: k) []) cs w) = .next (lone (mkF b tmps k []) cs w') :=
 step_lone_go (by simp [stepG, stepG.exec, mkF, hro, stepG.apply, h, Frame.finish])
theorem st_over {j : Option Code} {v : Value} {todo : List Item} (hro : b.roundOf = some L) (hk : b.kind = .normal) (h : (Instr.endRound L j).run P w = .ok v w')
  (ht : (j = none ∧ todo = []) ∨ (j = some .ret ∧ ∃ k, todo = .code .ret :: k) ∨ ∃ id k, j = some (.exit id) ∧ todo = .code (.exit id) :: k ∧ exitTo id k = none) :
  step P (lone (mkF b tmps todo []) (c :: cs) w) = .next (lone (c.finish v) cs w') := by
 refine step_lone_go ?_
 rcases ht with ⟨rfl, rfl⟩ | ⟨rfl, k, rfl⟩ | ⟨id, k, rfl, rfl, he⟩
 ·simp [stepG, stepG.exec, mkF, hro, hk, h, doReturn]
 ·simp [stepG, stepG.exec, mkF, hro, hk, h, doReturn]
 ·simp [stepG, stepG.exec, mkF, hro, hk, h, doReturn, he]
theorem st_round_pan {ch : List PanicEntry} {fn : Func} (hf : P.funcs[b.fn]? = some fn) : step P (lone { mkF b tmps k [] with mode := .panicking ch } (c :: cs) w) = .next (lone (c.raise ch) cs w) :=
 step_lone_go (by simp [stepG, unwind, mkF, Frame.catches, hf])
end
theorem setPs_sound {E : Env} {nt : Nat} (hn : nt ≤ lim) : ∀ {ds : List Nat} {vs : List V} {tm tm' : T V}, setPs nt tm ds vs = some tm' → ∀ {vs' : List Value} {tmps : Array Value}, ARs E vs vs' → TR E nt tm tmps →
  vs'.length = ds.length ∧ TR E nt tm' ((ds.zip vs').foldl (fun tmps (p : Nat × Value) => tmps.setIfInBounds p.1 p.2) tmps)
 | [], [], tm, tm', h, vs', tmps, r, tr => by simp [setPs] at h; subst h; cases r; exact ⟨rfl, tr⟩
 | d :: ds, v :: vs, tm, tm', h, vs', tmps, r, tr => by
  simp only [setPs] at h
  split at h
  ·rename_i hd
   cases r with
   | cons _ v' _ l' hv ht =>
    have tr2 : TR E nt (tm.set fu d v) (tmps.setIfInBounds d v') := by
     have := put_TR (tm' := T.set fu tm d v) (dst := some d) tr (by simp only [putT, hd]) hv hn
     exact this
    obtain ⟨a, b⟩ := setPs_sound hn h ht tr2
    exact ⟨by simp [a], b⟩
  ·cases h
 | [], _ :: _, _, _, h, _, _, _, _ => by simp [setPs] at h
 | _ :: _, [], _, _, h, _, _, _, _ => by simp [setPs] at h
theorem round_sound {C : Cfg} (pr : PrOk C) {rec : Req → M Res} (S : Sound C rec) {l : Nat} {args : List V} {h : H} {r : AEnd} {u' : Option AMode} {h' : H}
  (hs : stepR C rec (.round l args h) = .ok (.e r u' h')) : SRound C.P C.gl l args h r h' := by
 intro E w0 w args' p c cs mr g ra hE
 simp only [stepR] at hs
 split at hs
 ·rename_i lp hl
  split at hs
  ·rename_i hcond
   obtain ⟨hready, hnt⟩ := hcond
   split at hs
   ·cases hs
   ·rename_i tm htm
    obtain ⟨L, k1, k2, k3, k4, k5, k6, k7, k8⟩ := mr.obj l _ p hl hE
    obtain ⟨hlen, trT⟩ := setPs_sound hnt htm ra k8
    let ts : Array Value := (lp.params.zip args'.toList).foldl (fun tmps (p : Nat × Value) => tmps.setIfInBounds p.1 p.2) L.tmps
    have hyield : (Instr.yield p.blk args').run C.P w = .ok (.round p.blk L.fn ts L.assign L.body) w := by
     have hsz : args'.size = L.params.size := by
      have : args'.toList.length = L.params.toList.length := by rw [k5]; exact hlen
      simpa using this
     simp only [Instr.yield, Instr.getLoop, Sem.run_bind, getObj_loop k1, Result.andThen_ok, Sem.run_pure, hsz, ne_eq, not_true, if_false]
     congr 2
     simp only [ts]
     rw [← k5, ← Array.foldl_toList, Array.toList_zip]
    have hgl := big_of mr hl (fun op cs e => by cases e)
    let b : Frame := { (default : Frame) with fn := L.fn, kind := .normal, roundOf := some p.blk }
    have hround : Frame.round p.blk L.fn ts L.assign L.body .normal = mkF b ts [.code L.assign, .beginRound, .code L.body] [] := rfl
    have st : StR C.gl E ⟨lp.nt, some l, lp.fn⟩ ⟨tm, [], none, h⟩ b ts [] [] w0 w := ⟨mr, trT, .nil, rfl, ⟨hnt, k4, rfl, p, hE, rfl⟩, g⟩
    split at hs
    ·rename_i s1 hrec1
     split at hs
     ·rename_i lp1 fn1 hdf1 hl1 hfn1
      split at hs
      ·rename_i hready1
       obtain ⟨E1, t1, d1, c1, w1, x1, st1, cs1, us1, a5⟩ := (S.code _ _ _ _ _ hrec1).1 E w0 w b ts [] (c :: cs) [.beginRound, .code L.body] ⟨st.mr, st.tr, st.dr, st.uk, st.fr, st.gl⟩
       have ec : c1 = c :: cs := cs1
       subst ec
       have e1 := x1.le _ _ hE
       obtain ⟨L1, q1, q2, q3, q4, q5, q6, q7, q8⟩ := st1.mr.obj l _ p hl1 e1
       have hgl1 := big_of st1.mr hl1 (fun op cs e => by cases e)
       obtain ⟨m2, x2⟩ := obj_put st1.mr (co' := .loop { L1 with state := .busy }) hl1 hgl1 e1 q1 (o' := .loop { lp1 with state := .busy })
        ⟨{ L1 with state := .busy }, set_same q1, rfl, q3, q4, q5, q6, q7, q8⟩
       have hbegin : (Instr.beginRound p.blk).run C.P w1 = .ok () { w1 with heap := w1.heap.setIfInBounds p.blk (.loop { L1 with state := .busy }) } := by
        have hst : L1.state = .ready := by rw [q2]; exact hready1
        have hset := setObj_any (P := C.P) q1 (fun _ _ _ e => by cases e) (.loop { L1 with state := .busy })
        simp only [Instr.beginRound, Instr.getLoop, Sem.run_bind, getObj_loop q1, Result.andThen_ok, Sem.run_pure, hset, hst]
       have hd1 : d1 = [] := by have := st1.dr; rw [hdf1] at this; cases this; rfl
       subst hd1
       have hs1 := st_begin (P := C.P) (b := b) (tmps := t1) (k := [.code L.body]) (cs := c :: cs) rfl hbegin
       split at hs
       ·rename_i x s2 hrec2
        have st2 : StR C.gl E1 ⟨lp.nt, some l, lp.fn⟩ { s1 with h := s1.h.put l (.loop { lp1 with state := .busy }) } b t1 [] (c :: cs) w0 _ := st1.mono x2 m2
        obtain ⟨E3, t3, d3, c3, w3, x3, st3, cs3, _, a6⟩ := (S.code _ _ _ _ _ hrec2).1 E1 w0 _ b t1 [] (c :: cs) [] st2
        have hu1 : s1.u = none := by cases hh : s1.u with | none => rfl | some q => rw [hh] at us1; cases us1
        have ec3 : c3 = c :: cs := by rw [hu1] at cs3; exact cs3
        subst ec3
        split at hs
        ·rename_i lp3 hdf hl3
         have hd3 : d3 = [] := by have := st3.dr; rw [hdf] at this; cases this; rfl
         subst hd3
         have e3 := x3.le _ _ (x2.le _ _ e1)
         obtain ⟨L3, z1, z2, z3, z4, z5, z6, z7, z8⟩ := st3.mr.obj l _ p hl3 e3
         have hgl3 := big_of st3.mr hl3 (fun op cs e => by cases e)
         have xall := (x1.trans x2).trans x3
         have pre : Steps C.P (lone (Frame.round p.blk L.fn ts L.assign L.body .normal) (c :: cs) w) (lone (mkF b t1 [.code L.body] []) (c :: cs) { w1 with heap := w1.heap.setIfInBounds p.blk (.loop { L1 with state := .busy }) }) := by
          rw [hround, k6]
          exact Steps.trans a5 (.one hs1)
         have fin : ∀ (j : Option Code) (todo : List Item), ((j = none ∧ todo = []) ∨ (j = some .ret ∧ ∃ k, todo = .code .ret :: k) ∨ ∃ id k, j = some (.exit id) ∧ todo = .code (.exit id) :: k ∧ exitTo id k = none) →
           Steps C.P (lone (Frame.round p.blk L.fn ts L.assign L.body .normal) (c :: cs) w) (lone (mkF b t3 todo []) (c :: cs) w3) →
           (M.ok (Res.e (.ret (.bool j.isNone)) none (s2.h.put l (.loop { lp3 with state := if j.isNone then .ready else .done, pending := j }))) = M.ok (Res.e r u' h')) →
           ∃ f ts as bd E' w', (Instr.yield p.blk args').run C.P w = .ok (.round p.blk f ts as bd) w ∧ Ext E h E' h' ∧ MR E' h' w0 w' ∧
            RndR C.P E' r (lone (Frame.round p.blk f ts as bd .normal) (c :: cs) w) c cs w' := by
          intro j todo ht hst he
          cases he
          obtain ⟨m4, x4⟩ := obj_put st3.mr (co' := .loop { L3 with state := if j.isNone then .ready else .done, pending := j }) hl3 hgl3 e3 z1 (o' := .loop { lp3 with state := if j.isNone then .ready else .done, pending := j })
           ⟨{ L3 with state := if j.isNone then .ready else .done, pending := j }, set_same z1, rfl, rfl, z4, z5, z6, z7, z8⟩
          have hend : (Instr.endRound p.blk j).run C.P w3 = .ok (.bool j.isNone) { w3 with heap := w3.heap.setIfInBounds p.blk (.loop { L3 with state := if j.isNone then .ready else .done, pending := j }) } := by
           have hset := setObj_any (P := C.P) z1 (fun _ _ _ e => by cases e) (.loop { L3 with state := if j.isNone then .ready else .done, pending := j })
           simp only [Instr.endRound, Instr.getLoop, Sem.run_bind, getObj_loop z1, Result.andThen_ok, Sem.run_pure, hset]
          have hov := st_over (P := C.P) (b := b) (tmps := t3) (c := c) (cs := cs) rfl rfl hend ht
          exact ⟨L.fn, ts, L.assign, L.body, E3, _, hyield, xall.trans x4, m4, .bool j.isNone, .bool _, hst.trans (.one hov)⟩
         rw [← k7] at a6
         cases x with
         | norm => exact fin none [] (.inl ⟨rfl, rfl⟩) (by have := pre.trans a6; exact this) hs
         | ret => obtain ⟨k', a6⟩ := a6; exact fin (some .ret) _ (.inr (.inl ⟨rfl, k', rfl⟩)) (pre.trans a6) hs
         | exit id =>
          obtain ⟨k', e, a6⟩ := a6
          exact fin (some (.exit id)) _ (.inr (.inr ⟨id, k', rfl, rfl, e⟩)) (pre.trans a6) hs
         | panic ch =>
          obtain ⟨todo, ch', hch, a6⟩ := a6
          cases hs
          have hp := st_round_pan (P := C.P) (b := b) (tmps := t3) (k := todo) (c := c) (cs := cs) (w := w3) (ch := ch') (fn := fn1) (by show C.P.funcs[L.fn]? = _; rw [k4]; exact hfn1)
          exact ⟨L.fn, ts, L.assign, L.body, E3, w3, hyield, xall, st3.mr, ch', hch, (pre.trans a6).trans (.one hp)⟩
        ·cases hs
       ·cases hs
       ·cases hs
      ·cases hs
     ·cases hs
    ·cases hs
    ·cases hs
  ·cases hs
 ·cases hs
end
end Go.AM
end
