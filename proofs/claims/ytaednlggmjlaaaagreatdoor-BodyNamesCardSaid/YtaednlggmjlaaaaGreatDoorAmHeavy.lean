/- The abstract machine: calls and other heavy operations are sound. -/
import Derived.Test.YtaednlggmjlaaaaGreatDoorAmExec
set_option linter.unusedVariables false
set_option linter.unusedSimpArgs false
namespace Go.AM
noncomputable section
open Go.RowKit

def OpR (P : Program) (gl : List Nat) (fr : Fr) (o : Oper) (s : S) (r : OR) : Prop :=
  ∀ (E : Env) (w0 w : World) (b : Frame) (tmps : Array Value) (df : List Deferred) (cs : List Frame) (k : List Item) (ops : Array Oper) (i : Nat) (rest : List Nat),
    StR gl E fr s b tmps df cs w0 w → ops[i]? = some o → Region.wanted o (yielded ops tmps) = true →
    match r with
    | .val v s' => s'.tm = s.tm ∧ ∃ E' df' cs' w' v', Ext E s.h E' s'.h ∧ StR gl E' fr s' b tmps df' cs' w0 w' ∧ CS s.u cs cs' ∧ s'.u.isSome = s.u.isSome ∧ AR E' v v' ∧
        Steps P (lone (mkF b tmps (.inRegion ops (i :: rest) :: k) df) cs w) (lone (mkF b (putA tmps o.dst v') (.inRegion ops rest :: k) df') cs' w')
    | .pan ch s' => s'.tm = s.tm ∧ ∃ E' df' cs' w' todo ch', Ext E s.h E' s'.h ∧ StR gl E' fr s' b tmps df' cs' w0 w' ∧ CS s.u cs cs' ∧ s'.u.isSome = s.u.isSome ∧ All₂ (PER E') ch ch' ∧
        Steps P (lone (mkF b tmps (.inRegion ops (i :: rest) :: k) df) cs w) (lone { mkF b tmps todo df' with mode := .panicking ch' } cs' w')

/-- an operation whose run gives a value and a world. -/
theorem opR_val {P : Program} {gl : List Nat} {fr : Fr} {o : Oper} {s : S} {v : V} {h' : H} (hd : ∀ c, o.op ≠ .defer c)
    (hr : ∀ (E : Env) (w0 w : World) (tmps : Array Value), MR E s.h w0 w → TR E fr.nt s.tm tmps → GL E gl → ∃ E' w' n v', (execOp (evT tmps) o).run P w = .ok n w' ∧ (n = .value v' ∨ n = .skip ∧ v' = undef) ∧ Ext E s.h E' h' ∧ MR E' h' w0 w' ∧ AR E' v v') :
    OpR P gl fr o s (.val v { s with h := h' }) := by
  intro E w0 w b tmps df cs k ops i rest st ho hw
  obtain ⟨E', w', n, v', h1, h2, h3, h4, h5⟩ := hr E w0 w tmps st.mr st.tr st.gl
  refine ⟨rfl, E', df, cs, w', v', h3, st.mono h3 h4, CS.refl st.uk, rfl, h5, ?_⟩
  rcases h2 with rfl | ⟨rfl, rfl⟩
  · exact .one (st_val ho hw (.inr hd) h1)
  · exact .one (st_skipv ho hw (.inr hd) h1)

theorem light_opR {P : Program} {gl : List Nat} {fr : Fr} {o : Oper} {s : S} {v : V} (h : alight P gl s.tm s.h o = some v) : OpR P gl fr o s (.val v s) := by
  have hd : ∀ c, o.op ≠ .defer c := by intro c hc; simp [alight, hc] at h
  refine opR_val (h' := s.h) hd fun E w0 w tmps m r g => ?_
  obtain ⟨v', h1, h2⟩ := light_sound m g r h
  exact ⟨E, w, _, v', h1, .inl rfl, Ext.refl _ _, m, h2⟩

theorem alloc_opR {P : Program} {gl : List Nat} {fr : Fr} {o : Oper} {s : S} {v : V} {h' : H} (h : aalloc P gl s.tm s.h o = some (v, h')) : OpR P gl fr o s (.val v { s with h := h' }) := by
  have hd : ∀ c, o.op ≠ .defer c := by intro c hc; simp [aalloc, hc] at h
  refine opR_val hd fun E w0 w tmps m r g => ?_
  obtain ⟨b, ob, hn, ha⟩ := alloc_sound (nt := fr.nt) h
  obtain ⟨v', cob, n, p, h1, h2, h3, h4⟩ := ha E w tmps g r
  obtain ⟨m1, x1, hEb, hget, hlt, hgb, hbn⟩ := ghost_new m hn
  have hle := upd_le (p := p) hEb
  have := place_sound (m1.drawn n) (p := p) hlt hEb hgb cob h2 (fun o ho => by rw [hget] at ho; cases ho; exact h3.mono hle)
  refine ⟨upd E b p, _, _, v', h1, .inl rfl, ?_, this, h4 _ (by unfold upd; rw [if_pos rfl])⟩
  exact ⟨hle, fun k hk => by unfold upd; rw [if_neg (by omega)], x1.nxt, x1.ghost⟩

theorem store_opR {P : Program} {gl : List Nat} {fr : Fr} {o : Oper} {s : S} {h' : H} (h : astore P gl s.tm s.h o = some h') : OpR P gl fr o s (.val undefV { s with h := h' }) := by
  have hd : ∀ c, o.op ≠ .defer c := by intro c hc; simp [astore, hc] at h
  refine opR_val hd fun E w0 w tmps m r g => ?_
  obtain ⟨w', h1, h2, h3⟩ := store_sound m g r h
  exact ⟨E, w', _, undef, h1, .inr ⟨rfl, rfl⟩, h3, h2, .tup [] #[] .nil⟩

/-! ### calls -/
theorem run_callFunc {P : Program} {f : FuncId} {fn : Func} (hf : P.funcs[f]? = some fn) (hb : fn.body.isSome = true) (hn : (fn.name == "runtime.NumGoroutine") = false) (args : Array Value) (w : World) :
    (callFunc f args).run P w = .ok (.enter f args) w := by
  have hb' : fn.body.isNone = false := by rw [← Option.not_isSome, hb]; rfl
  simp only [callFunc, Sem.run_bind, run_program, Result.andThen_ok, hf, hn, Bool.false_eq_true, if_false, hb', Sem.run_pure]

theorem exec_call {P : Program} {dst : Option Tmp} {c : Go.Call} {f : Operand} {ty : TypeId} {pos : String} {after : Array Edge} {guard : Option (Nat × Bool)} {args : Array Operand} {argTypes : Array TypeId} {ρ : Operand → Value} {fv : Fn} {fi cp : Array Value} (h : ρ f = .func fv fi cp) (w : World) :
    (execOp ρ ⟨dst, .call ⟨.value f, args, argTypes⟩, ty, pos, after, guard⟩).run P w = (invoke (.fn fv cp) (fi ++ args.map ρ)).run P w := by
  simp only [execOp, resolve, h, Deferred.ofValue, Sem.run_bind, Sem.run_pure, Result.andThen_ok]

theorem find_idx {c : Nat} (hc : c < 256) : ∀ (l : List UInt8) (s : Nat) (f : Nat → UInt8), (∀ (i : Nat) (h : i < l.length), f (s + i) = l[i]) →
    (List.range' s l.length).find? (fun i => f i == UInt8.ofNat c) = idxB c (l.map UInt8.toNat) s
  | [], s, f, h => rfl
  | a :: l, s, f, h => by
    have h0 : f s = a := h 0 (by simp)
    have hb : (a == UInt8.ofNat c) = Nat.beq a.toNat c := by
      rw [Bool.eq_iff_iff, beq_iff_eq, ← UInt8.toNat_inj, Nat.beq_eq, UInt8.toNat_ofNat', Nat.mod_eq_of_lt hc]
    have ih := find_idx hc l (s + 1) f (fun i hi => by
      have := h (i + 1) (by simpa using hi)
      simpa [Nat.add_assoc, Nat.add_comm 1 i] using this)
    simp only [List.length_cons, List.range'_succ, List.find?_cons, List.map_cons, idxB, h0, hb]
    cases Nat.beq a.toNat c
    · exact ih
    · rfl

theorem callFn_func {C : Cfg} {rec : Req → M Res} {f : FuncId} {cap args : List V} {s : AM.S} {r : OR} (h : callFn C rec (.func f) cap args s = .ok r) :
    (∃ bs c, C.isIb f = true ∧ cap = [] ∧ args = [.str bs, .int .u8 (.ofNat c)] ∧ c < 256 ∧ r = .val (.int .i64 (match idxB c bs 0 with | some i => i | none => -1)) s) ∨
    (∃ v u' h', rec (.call f (args ++ cap) none s.h) = .ok (.e (.ret v) u' h') ∧ r = .val v { s with h := h' }) ∨
    ∃ ch u' h', rec (.call f (args ++ cap) none s.h) = .ok (.e (.pan ch) u' h') ∧ r = .pan ch { s with h := h' } := by
  simp only [callFn] at h
  split at h
  · rename_i bs c hib
    split at h
    · rename_i hc
      cases h
      exact .inl ⟨bs, c, hib, rfl, rfl, hc, rfl⟩
    · cases h
  · split at h
    · rename_i v u' h' hrec
      cases h
      exact .inr (.inl ⟨v, u', h', hrec, rfl⟩)
    · rename_i v u' h' hrec
      cases h
      exact .inr (.inr ⟨v, u', h', hrec, rfl⟩)
    · cases h
    · cases h

theorem call_opR {C : Cfg} (pr : PrOk C) {rec : Req → M Res} (S : Sound C rec) {fr : Fr} {dst : Option Tmp} {f : Operand} {ty : TypeId} {pos : String} {after : Array Edge} {guard : Option (Nat × Bool)} {args : Array Operand} {argTypes : Array TypeId}
    {s : AM.S} {fv : Fn} {first cap vs : List V} {r : OR} (hf : ev C.gl s.tm f = some (.fn fv first cap)) (hv : evs C.gl s.tm args.toList = some vs) (h : callFn C rec fv cap (first ++ vs) s = .ok r) :
    OpR C.P C.gl fr ⟨dst, .call ⟨.value f, args, argTypes⟩, ty, pos, after, guard⟩ s r := by
  intro E w0 w b tmps df cs k ops i rest st ho hw
  have hd : b.roundOf = none ∨ ∀ c, (Op.call ⟨.value f, args, argTypes⟩) ≠ .defer c := .inr (fun c e => by cases e)
  have rf := ev_sound st.gl st.tr hf
  have rv := evs_sound st.gl st.tr hv
  cases hfv : evT tmps f <;> rw [hfv] at rf <;> cases rf
  · rename_i fi cp fid ra rc
    have hex := fun w => exec_call (P := C.P) (dst := dst) (c := default) (ty := ty) (pos := pos) (after := after) (guard := guard) (args := args) (argTypes := argTypes) hfv w
    have rargs : ARs E ((first ++ vs) ++ cap) ((fi ++ args.map (evT tmps)) ++ cp).toList := by
      simp only [Array.toList_append, Array.toList_map]
      exact (ra.append rv).append rc
    rcases callFn_func h with ⟨bs, c, hib, hcap, hargs, hc256, rfl⟩ | ⟨v, u', h', hrec, rfl⟩ | ⟨ch, u', h', hrec, rfl⟩
    · subst hcap
      · skip
        obtain ⟨gi, hgi, rfl⟩ : ∃ gi, C.ib = some gi ∧ fid = gi := by
          unfold Cfg.isIb at hib
          split at hib
          · rename_i gi hgi; exact ⟨gi, hgi, Nat.eq_of_beq_eq_true hib⟩
          · cases hib
        obtain ⟨fn, hfn, hb, hname, hnext, hfind⟩ := pr.ib _ hgi
        rw [hargs] at rargs
        obtain ⟨a1, a2, hl, r1, r2⟩ : ∃ a1 a2, ((fi ++ args.map (evT tmps)) ++ cp).toList = [a1, a2] ∧ AR E (.str bs) a1 ∧ AR E (.int .u8 (.ofNat c)) a2 := by
          rw [List.append_nil] at rargs
          generalize ((fi ++ args.map (evT tmps)) ++ cp).toList = L at rargs
          cases rargs with | cons _ a1 _ _ h1 t => cases t with | cons _ a2 _ _ h2 t => cases t; exact ⟨a1, a2, rfl, h1, h2⟩
        have harr : ((fi ++ args.map (evT tmps)) ++ cp) = #[a1, a2] := Array.toList_inj.1 hl
        have h1 : (execOp (evT tmps) ⟨dst, .call ⟨.value f, args, argTypes⟩, ty, pos, after, guard⟩).run C.P w = .ok (.value (.int .i64 (match idxB c bs 0 with | some i => i | none => -1))) w := by
          rw [hex]
          have hbn : fn.body.isNone = true := by rw [hb]; rfl
          have hnum : (fn.name == "runtime.NumGoroutine") = false := by rw [hname]; decide
          simp only [invoke, callFunc, Sem.run_bind, run_program, Result.andThen_ok, hfn, hnum, Bool.false_eq_true, if_false, hbn, if_true, run_mark, hnext, hfind, Sem.run_pure, harr]
          cases r1 with | str _ y e => cases r2 with | int _ _ =>
          have hy : y.size = y.data.toList.length := by rw [Array.length_toList]; rfl
          have hix := find_idx (c := c) hc256 y.data.toList 0 (fun i => y[i]!) (fun i hi => by
            rw [Nat.zero_add]
            have h1 : i < y.size := by rw [hy]; exact hi
            rw [getElem!_pos y i h1, Array.getElem_toList]; rfl)
          rw [e, ← hy, ← List.range_eq_range'] at hix
          have hc : (Int.ofNat c).toNat.toUInt8 = UInt8.ofNat c := rfl
          have e9 : Extern.BytealgIndexByte.indexByte #[.string y, .int .u8 (Int.ofNat c)] = (do
              let b ← Extern.Bytes.bytesOf (.string y)
              let c ← Extern.Bytes.asByte (.int .u8 (Int.ofNat c))
              match (List.range b.size).find? fun i => b[i]! == c with
              | some i => pure (goInt i)
              | none => pure (goInt (-1))) := rfl
          rw [e9]
          simp only [Extern.Bytes.bytesOf, Extern.Bytes.asByte, Sem.run_bind, Sem.run_pure, Result.andThen_ok, hc, hix]
          cases idxB c bs 0 <;> rfl
        refine ⟨rfl, E, df, cs, w, _, Ext.refl _ _, st, CS.refl st.uk, rfl, ?_, .one (st_val ho hw hd h1)⟩
        exact .int _ _
    · · obtain ⟨sc, fn, hfn, hb⟩ := S.call _ _ _ _ _ _ _ hrec
        obtain ⟨E', w', cs', fr', x, m', uk', cse, hu, steps, e1, e2, e3, e4, lv⟩ := sc E w0 w _ .normal (mkF b tmps (.inRegion ops (i :: rest) :: k) df :: cs) st.mr st.gl rargs rfl
        have hcs : cs' = mkF b tmps (.inRegion ops (i :: rest) :: k) df :: cs := cse
        subst hcs
        obtain ⟨hm, fn', v', hfn', hres, hav⟩ := lv
        refine ⟨rfl, E', df, cs, w', v', x, st.mono x m', CS.refl st.uk, rfl, hav, ?_⟩
        have h1 : (execOp (evT tmps) ⟨dst, .call ⟨.value f, args, argTypes⟩, ty, pos, after, guard⟩).run C.P w = .ok (.enter fid ((fi ++ args.map (evT tmps)) ++ cp)) w := by
          rw [hex]; exact run_callFunc hfn hb (pr.names _ _ hfn hb) _ _
        have hleave : fr'.leaving C.P w' (.returned v') := ⟨hm, e4, e2, fn', hfn', hres⟩
        have hs := step_leave_returned (cs := cs) (c := mkF b tmps (.inRegion ops (i :: rest) :: k) df) hleave
        rw [finish_mkF, ho] at hs
        exact .head (st_enter ho hw hd h1) (steps.trans (.one hs))
    · · obtain ⟨sc, fn, hfn, hb⟩ := S.call _ _ _ _ _ _ _ hrec
        obtain ⟨E', w', cs', fr', x, m', uk', cse, hu, steps, e1, e2, e3, e4, lv⟩ := sc E w0 w _ .normal (mkF b tmps (.inRegion ops (i :: rest) :: k) df :: cs) st.mr st.gl rargs rfl
        have hcs : cs' = mkF b tmps (.inRegion ops (i :: rest) :: k) df :: cs := cse
        subst hcs
        obtain ⟨ch', fn', hm, hch, hfn'⟩ := lv
        have h1 : (execOp (evT tmps) ⟨dst, .call ⟨.value f, args, argTypes⟩, ty, pos, after, guard⟩).run C.P w = .ok (.enter fid ((fi ++ args.map (evT tmps)) ++ cp)) w := by
          rw [hex]; exact run_callFunc hfn hb (pr.names _ _ hfn hb) _ _
        have hleave : fr'.leaving C.P w' (.panicked ch') := ⟨hm, e4, fn', hfn'⟩
        have hs := step_leave_panicked (cs := cs) (c := mkF b tmps (.inRegion ops (i :: rest) :: k) df) hleave
        rw [raise_mkF] at hs
        exact ⟨rfl, E', df, cs, w', _, ch', x, st.mono x m', CS.refl st.uk, rfl, hch, .head (st_enter ho hw hd h1) (steps.trans (.one hs))⟩
  · rename_i l p hE
    have hex := fun w => exec_call (P := C.P) (dst := dst) (c := default) (ty := ty) (pos := pos) (after := after) (guard := guard) (args := args) (argTypes := argTypes) hfv w
    have rargs : ARs E ([] ++ vs) ((#[] : Array Value) ++ args.map (evT tmps)).toList := by
      simpa using rv
    simp only [callFn] at h
    split at h
    · rename_i v u' h' hrec
      cases h
      obtain ⟨f1, ts, as, bd, E', w', q1, x, m', v', hav, steps⟩ := S.round _ _ _ _ _ _ hrec E w0 w _ p (mkF b tmps (.inRegion ops (i :: rest) :: k) df) cs st.mr st.gl rargs hE
      refine ⟨rfl, E', df, cs, w', v', x, st.mono x m', CS.refl st.uk, rfl, hav, ?_⟩
      have h1 := st_round (rest := rest) (k := k) (df := df) (cs := cs) (P := C.P) (w := w) ho hw hd (by rw [hex]; exact q1)
      have h2 := steps
      rw [finish_mkF, ho] at h2
      exact .head h1 h2
    · rename_i ch u' h' hrec
      cases h
      obtain ⟨f1, ts, as, bd, E', w', q1, x, m', ch', hch, steps⟩ := S.round _ _ _ _ _ _ hrec E w0 w _ p (mkF b tmps (.inRegion ops (i :: rest) :: k) df) cs st.mr st.gl rargs hE
      have h1 := st_round (rest := rest) (k := k) (df := df) (cs := cs) (P := C.P) (w := w) ho hw hd (by rw [hex]; exact q1)
      have h2 := steps
      rw [raise_mkF] at h2
      exact ⟨rfl, E', df, cs, w', _, ch', x, st.mono x m', CS.refl st.uk, rfl, hch, .head h1 h2⟩
    · cases h
    · cases h

theorem exec_builtin {P : Program} {dst : Option Tmp} {bi : Builtin} {ty : TypeId} {pos : String} {after : Array Edge} {guard : Option (Nat × Bool)} {args : Array Operand} {argTypes : Array TypeId} {ρ : Operand → Value} (w : World) :
    (execOp ρ ⟨dst, .call ⟨.builtin bi, args, argTypes⟩, ty, pos, after, guard⟩).run P w = (builtin bi argTypes ty (args.map fun | .const _ => true | _ => false) (args.map ρ)).run P w := by
  simp only [execOp, resolve, Sem.run_bind, Sem.run_pure, Result.andThen_ok, invoke]
  rfl

theorem arr_of {args : Array Operand} {ρ : Operand → Value} {l : List Value} (h : args.toList.map ρ = l) : args.map ρ = l.toArray := by
  apply Array.toList_inj.1; simpa using h

theorem val_run {P : Program} {s : Sem Value} {v : Value} {w w' : World} (h : s.run P w = .ok v w') : (do pure (Next.value (← s)) : Sem Next).run P w = .ok (.value v) w' := by simp [h]

set_option maxHeartbeats 1000000 in
theorem heavy_sound {C : Cfg} (pr : PrOk C) {rec : Req → M Res} (S : Sound C rec) {fr : Fr} {o : Oper} {s : AM.S} {r : OR} (h : heavy C rec fr o s = .ok r) : OpR C.P C.gl fr o s r := by
  obtain ⟨dst, op, ty, pos, after, guard⟩ := o
  cases op with
  | call c =>
    obtain ⟨callee, args, argTypes⟩ := c
    cases callee with
    | value f =>
      simp only [heavy] at h
      split at h
      · rename_i fv first cap vs hf hv
        exact call_opR pr S hf hv h
      · cases h
    | invoke f n => simp [heavy] at h
    | builtin bi =>
      have hd : ∀ c, (Op.call ⟨.builtin bi, args, argTypes⟩) ≠ .defer c := fun c e => by cases e
      simp only [heavy] at h
      split at h
      · rename_i x y hv
        split at h
        · rename_i v h' ha
          cases h
          refine opR_val hd fun E w0 w tmps m r g => ?_
          have rv := evs_sound g r hv
          obtain ⟨a1, a2, hl, r1, r2⟩ : ∃ a1 a2, args.toList.map (evT tmps) = [a1, a2] ∧ AR E x a1 ∧ AR E y a2 := by
            generalize args.toList.map (evT tmps) = L at rv
            cases rv with | cons _ a1 _ _ h1 t => cases t with | cons _ a2 _ _ h2 t => cases t; exact ⟨a1, a2, rfl, h1, h2⟩
          obtain ⟨v', w', E', h1, h2, h3, h4⟩ := append_sound m (ty := ty) ha r1 r2
          exact ⟨E', w', _, v', by rw [exec_builtin, arr_of hl]; exact val_run h1, .inl rfl, h2, h3, h4⟩
        · cases h
      · rename_i hv
        split at h
        · rename_i v older hr hu
          cases h
          intro E w0 w b tmps df cs k ops i rest st ho hw
          have hro : b.roundOf = none := by have := st.fr.rnd; rw [hr] at this; exact this
          have huk := st.uk
          rw [hu] at huk
          obtain ⟨hkind, c, rst, rfl, hm⟩ := huk
          cases hcm : c.mode with
          | run => rw [hcm] at hm; cases hm
          | returning => rw [hcm] at hm; cases hm
          | panicking ch =>
            rw [hcm] at hm
            cases hm with
            | pan _ _ hch =>
              cases hch with
              | cons h1 t1 =>
                cases h1 with
                | mk _ v' _ hv' =>
                  rename_i older'
                  have hrun : (execOp (evT tmps) ⟨dst, .call ⟨.builtin .recover, args, argTypes⟩, ty, pos, after, guard⟩).run C.P w = .ok .recover w := by
                    rw [exec_builtin]; rfl
                  have hst := st_recover (P := C.P) (b := b) (df := df) (k := k) (cs := c :: rst) (rest := rest) ho hw hro hrun
                  have htr : tryRecover (mkF b tmps (.inRegion ops (i :: rest) :: k) df) (c :: rst) = some (v', { c with mode := .panicking ({ v := v', recovered := true } :: older') } :: rst) := by
                    simp [tryRecover, mkF, hkind, hcm]
                  rw [htr] at hst
                  refine ⟨rfl, E, df, _, w, v', Ext.refl _ _, ⟨st.mr, st.tr, st.dr, ⟨hkind, _, rst, rfl, .pan _ _ (.cons (.mk _ _ _ hv') t1)⟩, st.fr, st.gl⟩, ?_, by rw [hu]; rfl, hv', .one hst⟩
                  rw [hu]; exact ⟨c, rst, _, rfl, rfl⟩
        · rename_i hr hnot
          cases h
          intro E w0 w b tmps df cs k ops i rest st ho hw
          have hro : b.roundOf = none := by have := st.fr.rnd; rw [hr] at this; exact this
          have hrun : (execOp (evT tmps) ⟨dst, .call ⟨.builtin .recover, args, argTypes⟩, ty, pos, after, guard⟩).run C.P w = .ok .recover w := by
            rw [exec_builtin]; rfl
          have hst := st_recover (P := C.P) (b := b) (df := df) (k := k) (cs := cs) (rest := rest) ho hw hro hrun
          have htr : tryRecover (mkF b tmps (.inRegion ops (i :: rest) :: k) df) cs = none := by
            have huk := st.uk
            cases hu : s.u with
            | none =>
              rw [hu] at huk
              have hk : b.kind = .normal := huk
              simp [tryRecover, mkF, hk]
            | some m =>
              rw [hu] at huk
              obtain ⟨hkind, c, rst, rfl, hm⟩ := huk
              cases m with
              | ret =>
                cases hcm : c.mode <;> rw [hcm] at hm <;> cases hm
                simp [tryRecover, mkF, hkind, hcm]
              | pan ch =>
                cases hcm : c.mode <;> rw [hcm] at hm <;> cases hm
                rename_i ch' hch
                cases hch with
                | nil => simp [tryRecover, mkF, hkind, hcm]
                | cons h1 t1 =>
                  cases h1 with
                  | mk v v' rr hv' =>
                    cases rr with
                    | true => simp [tryRecover, mkF, hkind, hcm]
                    | false => exact absurd hu (hnot _ _)
          rw [htr] at hst
          exact ⟨rfl, E, df, cs, w, _, Ext.refl _ _, st, CS.refl st.uk, rfl, .nili, .one hst⟩
        · cases h
      · rename_i b k hv
        split at h
        · rename_i kt et es hu hb
          split at h
          · rename_i es' hk hes
            cases h
            refine opR_val hd fun E w0 w tmps m r g => ?_
            have rv := evs_sound g r hv
            obtain ⟨a1, a2, hl, r1, r2⟩ : ∃ a1 a2, args.toList.map (evT tmps) = [a1, a2] ∧ AR E (.map b) a1 ∧ AR E k a2 := by
              generalize args.toList.map (evT tmps) = L at rv
              cases rv with | cons _ a1 _ _ h1 t => cases t with | cons _ a2 _ _ h2 t => cases t; exact ⟨a1, a2, rfl, h1, h2⟩
            obtain ⟨w', h1, h2, h3⟩ := delete_sound m (ty := ty) hu hk hb hes r1 r2
            exact ⟨E, w', _, undef, by rw [exec_builtin, arr_of hl]; exact val_run h1, .inl rfl, h3, h2, .tup [] #[] .nil⟩
          · cases h
        · cases h
      · rename_i x hv
        have one : ∀ {E : Env} {tmps : Array Value} (g : GL E C.gl) (r : TR E fr.nt s.tm tmps), ∃ a1, args.toList.map (evT tmps) = [a1] ∧ AR E x a1 := by
          intro E tmps g r
          have rv := evs_sound g r hv
          generalize args.toList.map (evT tmps) = L at rv
          cases rv with | cons _ a1 _ _ h1 t => cases t; exact ⟨a1, rfl, h1⟩
        split at h
        · rename_i el hu
          cases h
          refine opR_val (h' := s.h) hd fun E w0 w tmps m r g => ?_
          obtain ⟨a1, hl, r1⟩ := one g r
          exact ⟨E, w, _, undef, by rw [exec_builtin, arr_of hl]; exact val_run (clear_none hu (.inl rfl) r1 w), .inl rfl, Ext.refl _ _, m, .tup [] #[] .nil⟩
        · rename_i el b off n c hu
          split at h
          · rename_i hn
            cases h
            have hn0 := Nat.eq_of_beq_eq_true hn
            refine opR_val (h' := s.h) hd fun E w0 w tmps m r g => ?_
            obtain ⟨a1, hl, r1⟩ := one g r
            exact ⟨E, w, _, undef, by rw [exec_builtin, arr_of hl]; exact val_run (clear_none hu (.inr ⟨b, off, c, by rw [hn0]⟩) r1 w), .inl rfl, Ext.refl _ _, m, .tup [] #[] .nil⟩
          · rename_i z hn hz
            split at h
            · rename_i h' hw
              cases h
              have hn0 : n ≠ 0 := by rintro rfl; cases hn
              refine opR_val hd fun E w0 w tmps m r g => ?_
              obtain ⟨a1, hl, r1⟩ := one g r
              obtain ⟨w', h1, h2, h3⟩ := clear_sound m (ty := ty) hu hn0 hz hw r1
              exact ⟨E, w', _, undef, by rw [exec_builtin, arr_of hl]; exact val_run h1, .inl rfl, h3, h2, .tup [] #[] .nil⟩
            · cases h
          · cases h
        · cases h
      · cases h
  | defer c =>
    obtain ⟨callee, args, argTypes⟩ := c
    cases callee with
    | value f =>
      simp only [heavy] at h
      split at h
      · rename_i g first cap vs hr hf hv
        cases h
        intro E w0 w b tmps df cs k ops i rest st ho hw
        have hro : b.roundOf = none := by have := st.fr.rnd; rw [hr] at this; exact this
        have rf := ev_sound st.gl st.tr hf
        have rv := evs_sound st.gl st.tr hv
        cases hfv : evT tmps f <;> rw [hfv] at rf <;> cases rf
        rename_i fi cp ra rc
        have hrun : (execOp (evT tmps) ⟨dst, .defer ⟨.value f, args, argTypes⟩, ty, pos, after, guard⟩).run C.P w = .ok (.defer { target := .fn (.func g) cp, args := fi ++ args.map (evT tmps) }) w := by
          simp only [execOp, resolve, hfv, Deferred.ofValue, Sem.run_bind, Sem.run_pure, Result.andThen_ok]
        refine ⟨rfl, E, _, cs, w, undef, Ext.refl _ _, ⟨st.mr, st.tr, .cons (.call g cap (first ++ vs) cp _ rc ?_) st.dr, st.uk, st.fr, st.gl⟩, CS.refl st.uk, rfl, .tup [] #[] .nil, .one (st_defer ho hw hro hrun)⟩
        simp only [Array.toList_append, Array.toList_map]
        exact ra.append rv
      · cases h
    | invoke f n => simp [heavy] at h
    | builtin bi => simp [heavy] at h
  | panic x =>
    simp only [heavy] at h
    split at h
    · rename_i t v hx
      cases h
      intro E w0 w b tmps df cs k ops i rest st ho hw
      have rx := ev_sound st.gl st.tr hx
      cases hcv : evT tmps x <;> rw [hcv] at rx <;> cases rx
      rename_i v' rv
      have h1 : (execOp (evT tmps) ⟨dst, .panic x, ty, pos, after, guard⟩).run C.P w = .halt (.panic (.iface t v')) w := by
        simp [execOp, hcv, Instr.panic]
      exact ⟨rfl, E, df, cs, w, _, _, Ext.refl _ _, st, CS.refl st.uk, rfl, .cons (.mk _ _ _ (.iface t v v' rv)) .nil, .one (st_pan ho hw (.inr fun c e => by cases e) h1)⟩
    · cases h
  | mapUpdate t m k x =>
    simp only [heavy] at h
    split at h
    · rename_i kt et b kv v hu hm hk hx
      split at h
      · rename_i es hok hb
        split at h
        · rename_i es' hes
          cases h
          refine opR_val (fun c e => by cases e) fun E w0 w tmps mm r g => ?_
          obtain ⟨w', h1, h2, h3⟩ := mapUpdate_sound mm hu hok hb hes (ev_sound g r hm) (ev_sound g r hk) (ev_sound g r hx)
          exact ⟨E, w', _, undef, by simp [execOp, h1], .inr ⟨rfl, rfl⟩, h3, h2, .tup [] #[] .nil⟩
        · cases h
      · cases h
    · cases h
  | insert t m k x =>
    simp only [heavy] at h
    split at h
    · rename_i kt et b kv v hu hm hk hx
      split at h
      · rename_i es hok hb
        split at h
        · rename_i es' hes
          cases h
          refine opR_val (fun c e => by cases e) fun E w0 w tmps mm r g => ?_
          obtain ⟨w', h1, h2, h3⟩ := mapUpdate_sound mm hu hok hb hes (ev_sound g r hm) (ev_sound g r hk) (ev_sound g r hx)
          exact ⟨E, w', _, undef, by simp [execOp, h1], .inr ⟨rfl, rfl⟩, h3, h2, .tup [] #[] .nil⟩
        · cases h
      · cases h
    · cases h
  | _ => simp [heavy] at h
end
end Go.AM
