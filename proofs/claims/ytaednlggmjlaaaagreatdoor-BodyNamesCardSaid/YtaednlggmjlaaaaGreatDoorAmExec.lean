/- The abstract machine: what is claimed of a run, and single operations. -/
import Derived.Test.YtaednlggmjlaaaaGreatDoorAmStep
set_option linter.unusedVariables false
set_option linter.unusedSimpArgs false
namespace Go.AM
noncomputable section
open Go.RowKit

inductive PER (E : Env) : PE → PanicEntry → Prop where
  | mk (v : V) (v' : Value) (r : Bool) (h : AR E v v') : PER E ⟨v, r⟩ { v := v', recovered := r }

inductive ModeR (E : Env) : AMode → FrameMode → Prop where
  | ret : ModeR E .ret .returning
  | pan (ch : List PE) (ch' : List PanicEntry) (h : All₂ (PER E) ch ch') : ModeR E (.pan ch) (.panicking ch')

theorem PER.mono {E E' : Env} (h : E.le E') {a : PE} {b : PanicEntry} (r : PER E a b) : PER E' a b := by cases r with | mk v v' r hr => exact .mk v v' r (hr.mono h)
theorem ModeR.mono {E E' : Env} (h : E.le E') {a : AMode} {b : FrameMode} (r : ModeR E a b) : ModeR E' a b := by
  cases r with
  | ret => exact .ret
  | pan ch ch' hr => exact .pan ch ch' (hr.mono fun _ _ => PER.mono h)

/-- the frame below a deferred call: what 'recover' sees. -/
def UK (E : Env) (u : Option AMode) (kind : CallKind) (cs : List Frame) : Prop :=
  match u with
  | none => kind = .normal
  | some m => kind = .deferred ∧ ∃ c rest, cs = c :: rest ∧ ModeR E m c.mode

theorem UK.mono {E E' : Env} (h : E.le E') {u : Option AMode} {kind : CallKind} {cs : List Frame} (r : UK E u kind cs) : UK E' u kind cs := by
  cases u with
  | none => exact r
  | some m => obtain ⟨a, c, rest, b, d⟩ := r; exact ⟨a, c, rest, b, d.mono h⟩

def CS (u : Option AMode) (cs cs' : List Frame) : Prop :=
  match u with
  | none => cs' = cs
  | some _ => ∃ c rest m, cs = c :: rest ∧ cs' = { c with mode := m } :: rest

theorem CS.refl {E : Env} {u : Option AMode} {kind : CallKind} {cs : List Frame} (r : UK E u kind cs) : CS u cs cs := by
  cases u with
  | none => exact rfl
  | some m => obtain ⟨a, c, rest, rfl, d⟩ := r; exact ⟨c, rest, c.mode, rfl, rfl⟩

theorem CS.trans {u u' : Option AMode} {cs cs' cs'' : List Frame} (h : CS u cs cs') (h' : CS u' cs' cs'') (e : u'.isSome = u.isSome) : CS u cs cs'' := by
  cases u with
  | none => cases u' with
    | none => exact Eq.trans h' h
    | some m => simp at e
  | some m => cases u' with
    | none => simp at e
    | some m' =>
      obtain ⟨c, rest, n, rfl, rfl⟩ := h
      obtain ⟨c', rest', n', e1, rfl⟩ := h'
      cases e1
      exact ⟨c, rest, n', rfl, rfl⟩

structure FR (E : Env) (fr : Fr) (b : Frame) : Prop where
  nt : fr.nt ≤ lim
  fn : b.fn = fr.fid
  rnd : match fr.rnd with | none => b.roundOf = none | some l => b.kind = .normal ∧ ∃ p, E l = some p ∧ b.roundOf = some p.blk

theorem FR.mono {E E' : Env} (h : E.le E') {fr : Fr} {b : Frame} (r : FR E fr b) : FR E' fr b := by
  refine ⟨r.nt, r.fn, ?_⟩
  have := r.rnd
  cases hr : fr.rnd with
  | none => rw [hr] at this; exact this
  | some l => rw [hr] at this; obtain ⟨a, p, b, c⟩ := this; exact ⟨a, p, h _ _ b, c⟩

structure StR (gl : List Nat) (E : Env) (fr : Fr) (s : S) (b : Frame) (tmps : Array Value) (df : List Deferred) (cs : List Frame) (w0 w : World) : Prop where
  mr : MR E s.h w0 w
  tr : TR E fr.nt s.tm tmps
  dr : All₂ (ADR E) s.df df
  uk : UK E s.u b.kind cs
  fr : FR E fr b
  gl : GL E gl

theorem StR.mono {gl : List Nat} {E E' : Env} {fr : Fr} {s : S} {b : Frame} {tmps : Array Value} {df : List Deferred} {cs : List Frame} {w0 w w' : World} {h' : H} (st : StR gl E fr s b tmps df cs w0 w) (x : Ext E s.h E' h') (m : MR E' h' w0 w') :
    StR gl E' fr { s with h := h' } b tmps df cs w0 w' :=
  ⟨m, st.tr.mono x.le, st.dr.mono fun _ _ => ADR.mono x.le, st.uk.mono x.le, st.fr.mono x.le, st.gl.mono x.le⟩

def Arr (P : Program) (E : Env) (x : X) (m : Machine) (b : Frame) (k : List Item) (tmps : Array Value) (df : List Deferred) (cs : List Frame) (w : World) : Prop :=
  match x with
  | .norm => Steps P m (lone (mkF b tmps k df) cs w)
  | .exit id => ∃ k', exitTo id k' = exitTo id k ∧ Steps P m (lone (mkF b tmps (.code (.exit id) :: k') df) cs w)
  | .ret => ∃ k', Steps P m (lone (mkF b tmps (.code .ret :: k') df) cs w)
  | .panic ch => ∃ todo ch', All₂ (PER E) ch ch' ∧ Steps P m (lone { mkF b tmps todo df with mode := .panicking ch' } cs w)

theorem Arr.of {P : Program} {E : Env} {x : X} {m m1 : Machine} {b : Frame} {k : List Item} {tmps : Array Value} {df : List Deferred} {cs : List Frame} {w : World} (h : Steps P m m1) (a : Arr P E x m1 b k tmps df cs w) : Arr P E x m b k tmps df cs w := by
  cases x with
  | norm => exact h.trans a
  | exit id => obtain ⟨k', e, s⟩ := a; exact ⟨k', e, h.trans s⟩
  | ret => obtain ⟨k', s⟩ := a; exact ⟨k', h.trans s⟩
  | panic ch => obtain ⟨t, ch', e, s⟩ := a; exact ⟨t, ch', e, h.trans s⟩

/-- what is claimed of a piece of code from one item on. -/
def SItem (P : Program) (gl : List Nat) (fr : Fr) (it : Item) (s : S) (x : X) (s' : S) : Prop :=
  ∀ (E : Env) (w0 w : World) (b : Frame) (tmps : Array Value) (df : List Deferred) (cs : List Frame) (k : List Item), StR gl E fr s b tmps df cs w0 w →
    ∃ E' tmps' df' cs' w', Ext E s.h E' s'.h ∧ StR gl E' fr s' b tmps' df' cs' w0 w' ∧ CS s.u cs cs' ∧ s'.u.isSome = s.u.isSome ∧
      Arr P E' x (lone (mkF b tmps (it :: k) df) cs w) b k tmps' df' cs' w'

def LeaveR (P : Program) (E : Env) (r : AEnd) (fr : Frame) (w : World) : Prop :=
  match r with
  | .ret v => fr.mode = .returning ∧ ∃ fn v', P.funcs[fr.fn]? = some fn ∧ (results fn fr.tmps).run P w = .ok v' w ∧ AR E v v'
  | .pan ch => ∃ ch' fn, fr.mode = .panicking ch' ∧ All₂ (PER E) ch ch' ∧ P.funcs[fr.fn]? = some fn

def SCall (P : Program) (gl : List Nat) (f : FuncId) (args : List V) (u : Option AMode) (h : H) (r : AEnd) (u' : Option AMode) (h' : H) : Prop :=
  ∀ (E : Env) (w0 w : World) (args' : Array Value) (kind : CallKind) (cs : List Frame), MR E h w0 w → GL E gl → ARs E args args'.toList → UK E u kind cs →
    ∃ E' w' cs' fr', Ext E h E' h' ∧ MR E' h' w0 w' ∧ UK E' u' kind cs' ∧ CS u cs cs' ∧ u'.isSome = u.isSome ∧ Steps P (lone (Frame.enter P f args' kind) cs w) (lone fr' cs' w') ∧
      fr'.fn = f ∧ fr'.kind = kind ∧ fr'.roundOf = none ∧ fr'.defers = [] ∧ LeaveR P E' r fr' w'

def SLeave (P : Program) (gl : List Nat) (fn : Func) (tm : T V) (df : List AD) (m : AMode) (u : Option AMode) (h : H) (r : AEnd) (u' : Option AMode) (h' : H) : Prop :=
  ∀ (E : Env) (w0 w : World) (fr : Frame) (cs : List Frame) (nt : Nat), MR E h w0 w → GL E gl → TR E nt tm fr.tmps → All₂ (ADR E) df fr.defers → ModeR E m fr.mode → UK E u fr.kind cs → P.funcs[fr.fn]? = some fn → fr.roundOf = none →
    ∃ E' w' cs' fr', Ext E h E' h' ∧ MR E' h' w0 w' ∧ UK E' u' fr.kind cs' ∧ CS u cs cs' ∧ u'.isSome = u.isSome ∧ Steps P (lone fr cs w) (lone fr' cs' w') ∧
      fr'.fn = fr.fn ∧ fr'.kind = fr.kind ∧ fr'.roundOf = none ∧ fr'.defers = [] ∧ LeaveR P E' r fr' w'

def RndR (P : Program) (E : Env) (r : AEnd) (m : Machine) (c : Frame) (cs : List Frame) (w : World) : Prop :=
  match r with
  | .ret v => ∃ v', AR E v v' ∧ Steps P m (lone (c.finish v') cs w)
  | .pan ch => ∃ ch', All₂ (PER E) ch ch' ∧ Steps P m (lone (c.raise ch') cs w)

def SRound (P : Program) (gl : List Nat) (l : Nat) (args : List V) (h : H) (r : AEnd) (h' : H) : Prop :=
  ∀ (E : Env) (w0 w : World) (args' : Array Value) (p : Place) (c : Frame) (cs : List Frame), MR E h w0 w → GL E gl → ARs E args args'.toList → E l = some p →
    ∃ f ts as bd E' w', (Instr.yield p.blk args').run P w = .ok (.round p.blk f ts as bd) w ∧ Ext E h E' h' ∧ MR E' h' w0 w' ∧
      RndR P E' r (lone (Frame.round p.blk f ts as bd .normal) (c :: cs) w) c cs w'

structure Sound (C : Cfg) (rec : Req → M Res) : Prop where
  code : ∀ fr c s x s', rec (.code fr c s) = .ok (.x x s') → SItem C.P C.gl fr (.code c) s x s' ∧ ∀ d, c = .loop d → SItem C.P C.gl fr (.inLoop d) s x s'
  call : ∀ f args u h r u' h', rec (.call f args u h) = .ok (.e r u' h') → SCall C.P C.gl f args u h r u' h' ∧ ∃ fn, C.P.funcs[f]? = some fn ∧ fn.body.isSome = true
  leave : ∀ fn tm df m u h r u' h', rec (.leave fn tm df m u h) = .ok (.e r u' h') → SLeave C.P C.gl fn tm df m u h r u' h'
  round : ∀ l args h r u' h', rec (.round l args h) = .ok (.e r u' h') → SRound C.P C.gl l args h r h'

/-- what is asked of the program. -/
structure PrOk (C : Cfg) : Prop where
  mix : C.P.follows .mixedOrders = true
  names : ∀ (f : Nat) (fn : Func), C.P.funcs[f]? = some fn → fn.body.isSome = true → (fn.name == "runtime.NumGoroutine") = false
  ib : ∀ (i : Nat), C.ib = some i → ∃ fn : Func, C.P.funcs[i]? = some fn ∧ fn.body = none ∧ fn.name = "internal/bytealg.IndexByteString" ∧ Extern.findNext fn = none ∧ Extern.find fn = some Extern.BytealgIndexByte.indexByte

theorem put_TR {E : Env} {nt : Nat} {tm tm' : T V} {tmps : Array Value} {dst : Option Nat} {v : V} {v' : Value} (r : TR E nt tm tmps) (h : putT nt tm dst v = some tm') (hv : AR E v v') (hn : nt ≤ lim) : TR E nt tm' (putA tmps dst v') := by
  cases dst with
  | none => simp [putT] at h; subst h; exact r
  | some d =>
    simp only [putT] at h
    split at h
    · rename_i hd
      cases h
      have hd' : d < nt := by rwa [Nat.blt_eq] at hd
      refine ⟨by simp [putA, r.1], fun t u ht => ?_⟩
      rw [T.get_set _ _ _ _ _ (fu_lim (Nat.lt_of_lt_of_le hd' hn))] at ht
      simp only [putA, Array.getElem?_setIfInBounds]
      split at ht
      · rename_i e
        cases ht
        subst e
        exact ⟨v', by rw [if_pos rfl, if_pos (by rw [r.1]; exact hd')], hv⟩
      · rename_i e
        rw [if_neg (fun e2 => e e2.symm)]
        exact r.2 t u ht
    · cases h
end
end Go.AM
