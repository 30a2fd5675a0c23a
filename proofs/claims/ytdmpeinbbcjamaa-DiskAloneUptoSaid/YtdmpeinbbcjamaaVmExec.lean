/- The machine of values: what is claimed of a run. -/
import Derived.Test.YtdmpeinbbcjamaaVmAppend
set_option linter.unusedVariables false
set_option linter.unusedSimpArgs false
namespace Go.VM
open Go.RowKit

structure PE where
  v : V
  recovered : Bool

inductive AMode where
  | ret
  | pan (chain : List PE)

structure S where
  tm : TM
  df : List AD
  u : Option AMode
  h : H

inductive X where
  | norm
  | exit (id : Nat)
  | ret
  | panic (chain : List PE)

inductive AEnd where
  | ret (v : V)
  | pan (chain : List PE)

structure Fr where
  nt : Nat
  rnd : Option Nat
  fid : FuncId

inductive PER (E : Env) : PE → PanicEntry → Prop where
  | mk (v : V) (v' : Value) (r : Bool) (h : AR E v v') : PER E ⟨v, r⟩ { v := v', recovered := r }

inductive ModeR (E : Env) : AMode → FrameMode → Prop where
  | ret : ModeR E .ret .returning
  | pan (ch : List PE) (ch' : List PanicEntry) (h : All₂ (PER E) ch ch') : ModeR E (.pan ch) (.panicking ch')

theorem PER.mono {E E' : Env} (h : E.le E') {a : PE} {b : PanicEntry} (r : PER E a b) : PER E' a b := by cases r with | mk v v' r hr => exact .mk v v' r (hr.mono h)
theorem ModeR.mono {E E' : Env} (h : E.le E') {a : AMode} {b : FrameMode} (r : ModeR E a b) : ModeR E' a b := by
  cases r with
  | ret => exact .ret
  | pan ch ch' hr => exact .pan ch ch' (hr.mono fun _ _ => PER.mono h)

/-- the frame below a deferred call: what 'recover' sees. -/
def UK (E : Env) (u : Option AMode) (kind : CallKind) (cs : List Frame) : Prop :=
  match u with
  | none => kind = .normal
  | some m => kind = .deferred ∧ ∃ c rest, cs = c :: rest ∧ ModeR E m c.mode

theorem UK.mono {E E' : Env} (h : E.le E') {u : Option AMode} {kind : CallKind} {cs : List Frame} (r : UK E u kind cs) : UK E' u kind cs := by
  cases u with
  | none => exact r
  | some m => obtain ⟨a, c, rest, b, d⟩ := r; exact ⟨a, c, rest, b, d.mono h⟩

def CS (u : Option AMode) (cs cs' : List Frame) : Prop :=
  match u with
  | none => cs' = cs
  | some _ => ∃ c rest m, cs = c :: rest ∧ cs' = { c with mode := m } :: rest

theorem CS.refl {E : Env} {u : Option AMode} {kind : CallKind} {cs : List Frame} (r : UK E u kind cs) : CS u cs cs := by
  cases u with
  | none => exact rfl
  | some m => obtain ⟨a, c, rest, rfl, d⟩ := r; exact ⟨c, rest, c.mode, rfl, rfl⟩

theorem CS.trans {u u' : Option AMode} {cs cs' cs'' : List Frame} (h : CS u cs cs') (h' : CS u' cs' cs'') (e : u'.isSome = u.isSome) : CS u cs cs'' := by
  cases u with
  | none => cases u' with
    | none => exact Eq.trans h' h
    | some m => simp at e
  | some m => cases u' with
    | none => simp at e
    | some m' =>
      obtain ⟨c, rest, n, rfl, rfl⟩ := h
      obtain ⟨c', rest', n', e1, rfl⟩ := h'
      cases e1
      exact ⟨c, rest, n', rfl, rfl⟩

structure FR (E : Env) (fr : Fr) (b : Frame) : Prop where
  fn : b.fn = fr.fid
  rnd : match fr.rnd with | none => b.roundOf = none | some l => b.kind = .normal ∧ ∃ p, E.ob l = some p ∧ b.roundOf = some p.blk

theorem FR.mono {E E' : Env} (h : E.le E') {fr : Fr} {b : Frame} (r : FR E fr b) : FR E' fr b := by
  refine ⟨r.fn, ?_⟩
  have := r.rnd
  cases hr : fr.rnd with
  | none => rw [hr] at this; exact this
  | some l => rw [hr] at this; obtain ⟨a, p, b, c⟩ := this; exact ⟨a, p, h.ob _ _ b, c⟩

structure StR (gl : List Nat) (E : Env) (F : Fx) (fr : Fr) (s : S) (b : Frame) (tmps : Array Value) (df : List Deferred) (cs : List Frame) (w0 w : World) : Prop where
  mr : MR E F s.h w0 w
  tr : TR E F.loc fr.nt s.tm tmps
  dr : All₂ (ADR E) s.df df
  uk : UK E s.u b.kind cs
  fr : FR E fr b
  gl : GL E gl

theorem StR.mono {gl : List Nat} {E E' : Env} {F F' : Fx} {fr : Fr} {s : S} {b : Frame} {tmps : Array Value} {df : List Deferred} {cs : List Frame} {w0 w w' : World} {h' : H} (st : StR gl E F fr s b tmps df cs w0 w) (x : Ext E s.h E' h') (l : F'.loc = F.loc) (m : MR E' F' h' w0 w') :
    StR gl E' F' fr { s with h := h' } b tmps df cs w0 w' :=
  ⟨m, st.tr.mono x.le (fun d p e => by rw [l]; exact e), st.dr.mono fun _ _ => ADR.mono x.le, st.uk.mono x.le, st.fr.mono x.le, st.gl.mono x.le⟩

def Arr (P : Program) (E : Env) (x : X) (m : Machine) (b : Frame) (k : List Item) (tmps : Array Value) (df : List Deferred) (cs : List Frame) (w : World) : Prop :=
  match x with
  | .norm => Steps P m (lone (mkF b tmps k df) cs w)
  | .exit id => ∃ k', exitTo id k' = exitTo id k ∧ Steps P m (lone (mkF b tmps (.code (.exit id) :: k') df) cs w)
  | .ret => ∃ k', Steps P m (lone (mkF b tmps (.code .ret :: k') df) cs w)
  | .panic ch => ∃ todo ch', All₂ (PER E) ch ch' ∧ Steps P m (lone { mkF b tmps todo df with mode := .panicking ch' } cs w)

theorem Arr.of {P : Program} {E : Env} {x : X} {m m1 : Machine} {b : Frame} {k : List Item} {tmps : Array Value} {df : List Deferred} {cs : List Frame} {w : World} (h : Steps P m m1) (a : Arr P E x m1 b k tmps df cs w) : Arr P E x m b k tmps df cs w := by
  cases x with
  | norm => exact h.trans a
  | exit id => obtain ⟨k', e, s⟩ := a; exact ⟨k', e, h.trans s⟩
  | ret => obtain ⟨k', s⟩ := a; exact ⟨k', h.trans s⟩
  | panic ch => obtain ⟨t, ch', e, s⟩ := a; exact ⟨t, ch', e, h.trans s⟩

/-- what is claimed of a piece of code from one item on. -/
def SItem (P : Program) (gl : List Nat) (fr : Fr) (it : Item) (s : S) (x : X) (s' : S) : Prop :=
  ∀ (E : Env) (F : Fx) (w0 w : World) (b : Frame) (tmps : Array Value) (df : List Deferred) (cs : List Frame) (k : List Item), StR gl E F fr s b tmps df cs w0 w →
    ∃ E' F' tmps' df' cs' w', Ext E s.h E' s'.h ∧ F'.prot = F.prot ∧ StR gl E' F' fr s' b tmps' df' cs' w0 w' ∧ CS s.u cs cs' ∧ s'.u.isSome = s.u.isSome ∧
      Arr P E' x (lone (mkF b tmps (it :: k) df) cs w) b k tmps' df' cs' w'

def LeaveR (P : Program) (E : Env) (r : AEnd) (fr : Frame) (w : World) : Prop :=
  match r with
  | .ret v => fr.mode = .returning ∧ ∃ fn v', P.funcs[fr.fn]? = some fn ∧ (results fn fr.tmps).run P w = .ok v' w ∧ AR E v v'
  | .pan ch => ∃ ch' fn, fr.mode = .panicking ch' ∧ All₂ (PER E) ch ch' ∧ P.funcs[fr.fn]? = some fn

/-- what is claimed of a call. -/
structure SCall (P : Program) (gl : List Nat) (f : FuncId) (args : List V) (u : Option AMode) (h : H) (r : AEnd) (u' : Option AMode) (h' : H) : Prop where
  lc : h'.lc = h.lc
  fn : ∃ fn, P.funcs[f]? = some fn ∧ fn.body.isSome = true ∧ (fn.name == "runtime.NumGoroutine") = false
  run : ∀ (E : Env) (F : Fx) (w0 w : World) (args' : Array Value) (kind : CallKind) (cs : List Frame), F.loc = noL → MR E F h w0 w → GL E gl → ARs E args args'.toList → UK E u kind cs →
    ∃ E' F' w' cs' fr', Ext E h E' h' ∧ F'.loc = noL ∧ F'.prot = F.prot ∧ MR E' F' h' w0 w' ∧ UK E' u' kind cs' ∧ CS u cs cs' ∧ u'.isSome = u.isSome ∧ Steps P (lone (Frame.enter P f args' kind) cs w) (lone fr' cs' w') ∧
      fr'.fn = f ∧ fr'.kind = kind ∧ fr'.roundOf = none ∧ fr'.defers = [] ∧ LeaveR P E' r fr' w'

def SLeave (P : Program) (gl : List Nat) (fn : Func) (tm : TM) (df : List AD) (m : AMode) (u : Option AMode) (h : H) (r : AEnd) (u' : Option AMode) (h' : H) : Prop :=
  ∀ (E : Env) (F : Fx) (w0 w : World) (fr : Frame) (cs : List Frame) (nt : Nat), MR E F h w0 w → GL E gl → TR E F.loc nt tm fr.tmps → All₂ (ADR E) df fr.defers → ModeR E m fr.mode → UK E u fr.kind cs → P.funcs[fr.fn]? = some fn → fr.roundOf = none →
    ∃ E' F' w' cs' fr', Ext E h E' h' ∧ F'.prot = F.prot ∧ MR E' F' h' w0 w' ∧ UK E' u' fr.kind cs' ∧ CS u cs cs' ∧ u'.isSome = u.isSome ∧ Steps P (lone fr cs w) (lone fr' cs' w') ∧
      fr'.fn = fr.fn ∧ fr'.kind = fr.kind ∧ fr'.roundOf = none ∧ fr'.defers = [] ∧ LeaveR P E' r fr' w'

def RndR (P : Program) (E : Env) (r : AEnd) (m : Machine) (c : Frame) (cs : List Frame) (w : World) : Prop :=
  match r with
  | .ret v => ∃ v', AR E v v' ∧ Steps P m (lone (c.finish v') cs w)
  | .pan ch => ∃ ch', All₂ (PER E) ch ch' ∧ Steps P m (lone (c.raise ch') cs w)

/-- what is claimed of a round of a loop over a function. -/
structure SRound (P : Program) (gl : List Nat) (l : Nat) (args : List V) (h : H) (r : AEnd) (h' : H) : Prop where
  lc : h'.lc = h.lc
  run : ∀ (E : Env) (F : Fx) (w0 w : World) (args' : Array Value) (p : Place) (c : Frame) (cs : List Frame), F.loc = noL → MR E F h w0 w → GL E gl → ARs E args args'.toList → E.ob l = some p →
    ∃ f ts as bd E' F' w', (Instr.yield p.blk args').run P w = .ok (.round p.blk f ts as bd) w ∧ Ext E h E' h' ∧ F'.loc = noL ∧ F'.prot = F.prot ∧ MR E' F' h' w0 w' ∧
      RndR P E' r (lone (Frame.round p.blk f ts as bd .normal) (c :: cs) w) c cs w'

def putT (nt : Nat) (tm : TM) : Option Nat → TV → Option TM
  | none, _ => some tm
  | some d, v => match Nat.blt d nt with
    | true => some ((d, v) :: tm)
    | false => none

theorem put_TR {E : Env} {L : Nat → Option Place} {nt : Nat} {tm tm' : TM} {tmps : Array Value} {dst : Option Nat} {v : TV} {v' : Value} (r : TR E L nt tm tmps) (h : putT nt tm dst v = some tm') (hv : TVR E L v v') : TR E L nt tm' (putA tmps dst v') := by
  cases dst with
  | none => simp [putT] at h; subst h; exact r
  | some d =>
    simp only [putT] at h
    split at h
    · rename_i hd
      cases h
      have hd' : d < nt := by rwa [Nat.blt_eq] at hd
      refine ⟨by simp [putA, r.1], fun t u ht => ?_⟩
      rw [tg_cons] at ht
      simp only [putA, Array.getElem?_setIfInBounds]
      split at ht
      · rename_i e
        cases ht
        subst e
        exact ⟨v', by rw [if_pos rfl, if_pos (by rw [r.1]; exact hd')], hv⟩
      · rename_i e
        rw [if_neg (fun e2 => e e2.symm)]
        exact r.2 t u ht
    · cases h

theorem StR.put {gl : List Nat} {E : Env} {F : Fx} {fr : Fr} {s : S} {b : Frame} {tmps : Array Value} {df : List Deferred} {cs : List Frame} {w0 w : World} (st : StR gl E F fr s b tmps df cs w0 w) {tm : TM} {dst : Option Nat} {v : TV} {v' : Value}
    (h : putT fr.nt s.tm dst v = some tm) (hv : TVR E F.loc v v') : StR gl E F fr { s with tm } b (putA tmps dst v') df cs w0 w :=
  ⟨st.mr, put_TR st.tr h hv, st.dr, st.uk, st.fr, st.gl⟩

/-- a guard, as it is known. -/
def wantedA (ops : Array Oper) (o : Oper) (tm : TM) : Option Bool :=
  match o.guard with
  | none => some true
  | some (j, want) => match (ops[j]?).bind (·.dst) with
    | some d => match tg tm d with
      | some (.v (.bool b)) => some (b == want)
      | some _ => some false
      | none => none
    | none => some false

theorem wanted_sound {E : Env} {L : Nat → Option Place} {nt : Nat} {tm : TM} {tmps : Array Value} {ops : Array Oper} {o : Oper} {q : Bool} (h : wantedA ops o tm = some q) (r : TR E L nt tm tmps) : Region.wanted o (yielded ops tmps) = q := by
  unfold wantedA at h
  unfold Region.wanted
  cases hg : o.guard with
  | none => rw [hg] at h; simpa using h
  | some jw =>
    obtain ⟨j, want⟩ := jw
    rw [hg] at h
    simp only at h ⊢
    cases hd : (ops[j]?).bind (·.dst) with
    | none => rw [hd] at h; cases h; simp [yielded, hd]
    | some d =>
      rw [hd] at h
      simp only at h
      cases ht : tg tm d with
      | none => rw [ht] at h; cases h
      | some u =>
        obtain ⟨u', hu, hr⟩ := r.2 d u ht
        rw [ht] at h
        cases hr with
        | v x _ hr =>
          cases x with
          | bool c => cases h; cases hr; simp [yielded, hd, hu]
          | _ => cases h; cases hr <;> simp [yielded, hd, hu]
        | l d o p e => cases h; simp [yielded, hd, hu]
        | e cs blk off e => cases h; simp [yielded, hd, hu]

/-! ### single operations -/
inductive OR where
  | val (tv : TV) (s : S)
  | pan (ch : List PE) (s : S)

def OpR (P : Program) (gl : List Nat) (fr : Fr) (o : Oper) (s : S) (r : OR) : Prop :=
  ∀ (E : Env) (F : Fx) (w0 w : World) (b : Frame) (tmps : Array Value) (df : List Deferred) (cs : List Frame) (k : List Item) (ops : Array Oper) (i : Nat) (rest : List Nat),
    StR gl E F fr s b tmps df cs w0 w → ops[i]? = some o → Region.wanted o (yielded ops tmps) = true →
    match r with
    | .val tv s' => s'.tm = s.tm ∧ ∃ E' F' df' cs' w' v', Ext E s.h E' s'.h ∧ F'.loc = F.loc ∧ F'.prot = F.prot ∧ StR gl E' F' fr s' b tmps df' cs' w0 w' ∧ CS s.u cs cs' ∧ s'.u.isSome = s.u.isSome ∧ TVR E' F'.loc tv v' ∧
        Steps P (lone (mkF b tmps (.inRegion ops (i :: rest) :: k) df) cs w) (lone (mkF b (putA tmps o.dst v') (.inRegion ops rest :: k) df') cs' w')
    | .pan ch s' => s'.tm = s.tm ∧ ∃ E' F' df' cs' w' todo ch', Ext E s.h E' s'.h ∧ F'.loc = F.loc ∧ F'.prot = F.prot ∧ StR gl E' F' fr s' b tmps df' cs' w0 w' ∧ CS s.u cs cs' ∧ s'.u.isSome = s.u.isSome ∧ All₂ (PER E') ch ch' ∧
        Steps P (lone (mkF b tmps (.inRegion ops (i :: rest) :: k) df) cs w) (lone { mkF b tmps todo df' with mode := .panicking ch' } cs' w')

theorem Does.opR {P : Program} {gl : List Nat} {fr : Fr} {o : Oper} {s : S} {tv : TV} {h' : H} (hd : ∀ c, o.op ≠ .defer c) (d : Does P gl fr.nt s.tm s.h o tv h') : OpR P gl fr o s (.val tv { s with h := h' }) := by
  intro E F w0 w b tmps df cs k ops i rest st ho hw
  obtain ⟨E', F', w', n, v', h1, h2, h3, h4, h5, h6, h7⟩ := d E F w0 w tmps st.mr st.gl st.tr
  refine ⟨rfl, E', F', df, cs, w', v', h3, h4, h5, st.mono h3 h4 h6, CS.refl st.uk, rfl, h7, ?_⟩
  rcases h2 with rfl | ⟨rfl, rfl⟩
  · exact .one (st_val ho hw (.inr hd) h1)
  · exact .one (st_skipv ho hw (.inr hd) h1)
end Go.VM
