/- The machine of values: calls, and what else is no mere operation. -/
import Derived.Test.YtdmpeinbbcjamaaVmExec
set_option linter.unusedVariables false
set_option linter.unusedSimpArgs false
namespace Go.VM
open Go.RowKit
open Classical in
/-- what a callee may not touch. -/
noncomputable def inFx (F : Fx) (w : World) : Fx where
  loc := noL
  prot := fun B => if ∃ d p, F.loc d = some p ∧ p.blk = B then (w.heap[B]?).map (·, none) else F.prot B
  own := fun B => match F.own B with | .lc _ => .pr none | x => x

open Classical in
noncomputable def outFx (F F' : Fx) : Fx where
  loc := F.loc
  prot := F.prot
  own := fun B => if ∃ d p, F.loc d = some p ∧ p.blk = B then F.own B else F'.own B

section
variable {E E' : Env} {F F' : Fx} {h h' : H} {w0 w w' : World}

theorem inFx_own {B : Nat} (hn : ∀ d, F.own B ≠ .lc d) : (inFx F w).own B = F.own B := by
  simp only [inFx]

theorem MR.enter (m : MR E F h w0 w) : MR E (inFx F w) h w0 w := by
  refine ⟨m.below, m.fresh, m.glo, m.glb, m.gbl, fun B hB => m.lto B (fun e => hB (by simp only [inFx, e])), m.obj, fun b o p hg hb hp => ?_, m.fz, fun B i v hf hB => ?_, fun b n p hb hp => ?_, m.tokn, m.toko, fun d p hp => (by cases hp), fun B x hx => ?_⟩
  · obtain ⟨a1, a2⟩ := m.oOb b o p hg hb hp
    exact ⟨by rw [inFx_own (by intro d; rw [a1]; simp)]; exact a1, a2⟩
  · rcases m.oFz B i v hf hB with a | ⟨b, a⟩ | ⟨k, a, ak⟩
    · exact .inl (by rw [inFx_own (by intro d; rw [a]; simp)]; exact a)
    · exact .inr (.inl ⟨b, by rw [inFx_own (by intro d; rw [a]; simp)]; exact a⟩)
    · exact .inr (.inr ⟨k, by rw [inFx_own (by intro d; rw [a]; simp)]; exact a, ak⟩)
  · obtain ⟨a1, a2, a3, a4⟩ := m.tok b n p hb hp
    exact ⟨by rw [inFx_own (by intro d; rw [a1]; simp)]; exact a1, a2, a3, a4⟩
  · simp only [inFx] at hx
    split at hx
    · rename_i e
      obtain ⟨d, p, e1, rfl⟩ := e
      obtain ⟨a1, _⟩ := m.loc d p e1
      cases hq : w.heap[p.blk]? with
      | none => rw [hq] at hx; cases hx
      | some y => rw [hq] at hx; cases hx; exact ⟨rfl, by simp only [inFx, a1]⟩
    · obtain ⟨a1, a2⟩ := m.prot B x hx
      exact ⟨a1, by rw [inFx_own (by intro d; rw [a2]; simp)]; exact a2⟩

theorem MR.exit (m : MR E F h w0 w) (hle : E.le E') (hp : F'.prot = (inFx F w).prot) (hlc : h'.lc = h.lc) (m' : MR E' F' h' w0 w') : MR E' (outFx F F') h' w0 w' := by
  have key : ∀ d p, F.loc d = some p → F'.own p.blk = .pr none ∧ w'.heap[p.blk]? = w.heap[p.blk]? := by
    intro d p hd
    obtain ⟨a1, a2, cs, a3, c, el, lo, hi, a4, _⟩ := m.loc d p hd
    obtain ⟨b1, b2⟩ := m'.prot p.blk (_, none) (by
      rw [hp]; simp only [inFx]
      rw [if_pos ⟨d, p, hd, rfl⟩, a4]; rfl)
    exact ⟨b2, b1.trans a4.symm⟩
  have hown : ∀ B, F'.own B ≠ .pr none → (outFx F F').own B = F'.own B := by
    intro B hB
    simp only [outFx]
    rw [if_neg]
    rintro ⟨d, p, hd, rfl⟩
    exact hB (key d p hd).1
  refine ⟨m'.below, m'.fresh, m'.glo, m'.glb, m'.gbl, fun B hB => ?_, m'.obj, fun b o p hg hb hp => ?_, m'.fz, fun B i v hf hB => ?_, fun b n p hb hp => ?_, m'.tokn, m'.toko, fun d p hd => ?_, fun B x hx => ?_⟩
  · by_cases hq : F'.own B = .no
    · simp only [outFx] at hB
      split at hB
      · rename_i e
        obtain ⟨d, p, hd, rfl⟩ := e
        rw [(key d p hd).1] at hq; cases hq
      · exact absurd hq hB
    · exact m'.lto B hq
  · obtain ⟨a1, a2⟩ := m'.oOb b o p hg hb hp
    exact ⟨by rw [hown _ (by rw [a1]; simp)]; exact a1, a2⟩
  · rcases m'.oFz B i v hf hB with a | ⟨b, a⟩ | ⟨k, a, ak⟩
    · exact .inl (by rw [hown _ (by rw [a]; simp)]; exact a)
    · exact .inr (.inl ⟨b, by rw [hown _ (by rw [a]; simp)]; exact a⟩)
    · exact .inr (.inr ⟨k, by rw [hown _ (by rw [a]; simp)]; exact a, ak⟩)
  · obtain ⟨a1, a2, a3, a4⟩ := m'.tok b n p hb hp
    exact ⟨by rw [hown _ (by rw [a1]; simp)]; exact a1, a2, a3, a4⟩
  · have hd : F.loc d = some p := hd
    obtain ⟨a1, a2, cs, a3, a4⟩ := m.loc d p hd
    refine ⟨?_, a2, cs, by rw [hlc]; exact a3, (a4.mono hle).world (key d p hd).2⟩
    simp only [outFx]
    rw [if_pos ⟨d, p, hd, rfl⟩]; exact a1
  · have hx : F.prot B = some x := hx
    obtain ⟨a1, a2⟩ := m.prot B x hx
    have hn : ¬ ∃ d p, F.loc d = some p ∧ p.blk = B := by
      rintro ⟨d, p, hd, rfl⟩
      obtain ⟨b1, _⟩ := m.loc d p hd
      rw [a2] at b1; cases b1
    obtain ⟨b1, b2⟩ := m'.prot B x (by rw [hp]; simp only [inFx]; rw [if_neg hn]; exact hx)
    refine ⟨b1, ?_⟩
    simp only [outFx]
    rw [if_neg hn]; exact b2
end

section
variable {P : Program} {gl : List Nat} {fr : Fr} {o : Oper} {s : S}

/-- what is weaker than some values. -/
def Weak (vs ws : List V) : Prop := ∀ (E : Env) (l : List Value), ARs E vs l → ARs E ws l
theorem Weak.refl (vs : List V) : Weak vs vs := fun _ _ h => h

theorem rop_call {x : RX} {as : List RX} (ho : rop P o = some (.call x as)) : ∃ dst ty pos after guard f args argTypes, o = ⟨dst, .call ⟨.value f, args, argTypes⟩, ty, pos, after, guard⟩ ∧ rx f = some x ∧ rxs args.toList = some as := by
  obtain ⟨dst, op, ty, pos, after, guard⟩ := o
  have hk := rop_kind ho
  cases op with
  | call c =>
    obtain ⟨callee, args, argTypes⟩ := c
    cases callee with
    | value f =>
      simp only [rop] at ho
      split at ho
      · rename_i f1 as1 h1 h2; cases ho; exact ⟨_, _, _, _, _, f, args, argTypes, rfl, h1, h2⟩
      · cases ho
    | invoke f n => simp [rop] at ho
    | builtin b =>
      exfalso
      simp only [rop] at ho
      unfold rbuiltin at ho
      split at ho
      · split at ho <;> cases ho
      · split at ho <;> cases ho
      · split at ho <;> cases ho
      · split at ho <;> cases ho
      · split at ho
        · split at ho
          · split at ho
            · cases ho
            · split at ho
              · split at ho <;> cases ho
              · cases ho
          · cases ho
        · cases ho
      · split at ho <;> cases ho
      · split at ho
        · simp only [Option.map_eq_some_iff] at ho; obtain ⟨_, _, e⟩ := ho; cases e
        · cases ho
      · split at ho
        · simp only [Option.map_eq_some_iff] at ho; obtain ⟨_, _, e⟩ := ho; cases e
        · cases ho
      · cases ho
  | defer c =>
    obtain ⟨callee, args, argTypes⟩ := c
    cases callee with
    | value f => simp only [rop] at ho; split at ho <;> cases ho
    | invoke f n => simp [rop] at ho
    | builtin b => simp [rop] at ho
  | panic x => simp only [rop, Option.map_eq_some_iff] at ho; obtain ⟨_, _, e⟩ := ho; cases e
  | mapUpdate t m k x => simp only [rop] at ho; split at ho <;> first | (cases ho; done) | skip; simp only [Option.map_eq_some_iff] at ho; obtain ⟨_, _, e⟩ := ho; cases e
  | insert t m k x => simp only [rop] at ho; split at ho <;> first | (cases ho; done) | skip; simp only [Option.map_eq_some_iff] at ho; obtain ⟨_, _, e⟩ := ho; cases e
  | _ => simp [kindOp, kindRO] at hk

/-- a call, by what is known of the callee. -/
theorem call_opR {x : RX} {as : List RX} {f : FuncId} {first cap vs ws : List V} {r : AEnd} {u' : Option AMode} {h' : H} (ho : rop P o = some (.call x as)) (hx : rv gl s.tm x = some (.fn (.func f) first cap)) (hv : rvs gl s.tm as = some vs) (hw : Weak ((first ++ vs) ++ cap) ws)
    (sc : SCall P gl f ws none s.h r u' h') : OpR P gl fr o s (match r with | .ret v => .val (.v v) { s with h := h' } | .pan ch => .pan ch { s with h := h' }) := by
  obtain ⟨dst, ty, pos, after, guard, fo, args, argTypes, rfl, hf, has⟩ := rop_call ho
  intro E F w0 w b tmps df cs k ops i rest st ho hwd
  have hd : b.roundOf = none ∨ ∀ c, (Op.call ⟨.value fo, args, argTypes⟩) ≠ .defer c := .inr (fun c e => by cases e)
  have rf := rv_sound st.gl st.tr hf hx
  have rvv := rvs_sound st.gl st.tr has hv
  obtain ⟨fn, hfn, hb, hname⟩ := sc.fn
  cases hfv : evT tmps fo <;> rw [hfv] at rf <;> cases rf
  rename_i fi cp ra rc
  have hex := fun w => exec_call (P := P) (dst := dst) (c := default) (ty := ty) (pos := pos) (after := after) (guard := guard) (args := args) (argTypes := argTypes) hfv w
  have rargs : ARs E ws ((fi ++ args.map (evT tmps)) ++ cp).toList := by
    refine hw _ _ ?_
    simp only [Array.toList_append, Array.toList_map]
    exact (ra.append rvv).append rc
  obtain ⟨E', F', w', cs', fr', x1, l1, p1, m', uk', cse, hu, steps, e1, e2, e3, e4, lv⟩ := sc.run E (inFx F w) w0 w _ .normal (mkF b tmps (.inRegion ops (i :: rest) :: k) df :: cs) rfl st.mr.enter st.gl rargs rfl
  have hcs : cs' = mkF b tmps (.inRegion ops (i :: rest) :: k) df :: cs := cse
  subst hcs
  have mX := st.mr.exit x1.le p1 sc.lc m'
  have h1 : (execOp (evT tmps) ⟨dst, .call ⟨.value fo, args, argTypes⟩, ty, pos, after, guard⟩).run P w = .ok (.enter f ((fi ++ args.map (evT tmps)) ++ cp)) w := by
    rw [hex]; exact run_callFunc hfn hb hname _ _
  cases r with
  | ret v =>
    obtain ⟨hm, fn', v', hfn', hres, hav⟩ := lv
    refine ⟨rfl, E', outFx F F', df, cs, w', v', x1, rfl, rfl, st.mono x1 rfl mX, CS.refl st.uk, rfl, .v _ _ hav, ?_⟩
    have hleave : fr'.leaving P w' (.returned v') := ⟨hm, e4, e2, fn', hfn', hres⟩
    have hs := step_leave_returned (cs := cs) (c := mkF b tmps (.inRegion ops (i :: rest) :: k) df) hleave
    rw [finish_mkF, ho] at hs
    exact .head (st_enter ho hwd hd h1) (steps.trans (.one hs))
  | pan ch =>
    obtain ⟨ch', fn', hm, hch, hfn'⟩ := lv
    have hleave : fr'.leaving P w' (.panicked ch') := ⟨hm, e4, fn', hfn'⟩
    have hs := step_leave_panicked (cs := cs) (c := mkF b tmps (.inRegion ops (i :: rest) :: k) df) hleave
    rw [raise_mkF] at hs
    exact ⟨rfl, E', outFx F F', df, cs, w', _, ch', x1, rfl, rfl, st.mono x1 rfl mX, CS.refl st.uk, rfl, hch, .head (st_enter ho hwd hd h1) (steps.trans (.one hs))⟩

/-- a round of a loop over a function, asked by its iterator. -/
theorem yield_opR {x : RX} {as : List RX} {l : Nat} {vs : List V} {r : AEnd} {h' : H} (ho : rop P o = some (.call x as)) (hx : rv gl s.tm x = some (.fn (.yield l) [] [])) (hv : rvs gl s.tm as = some vs)
    (sc : SRound P gl l vs s.h r h') : OpR P gl fr o s (match r with | .ret v => .val (.v v) { s with h := h' } | .pan ch => .pan ch { s with h := h' }) := by
  obtain ⟨dst, ty, pos, after, guard, fo, args, argTypes, rfl, hf, has⟩ := rop_call ho
  intro E F w0 w b tmps df cs k ops i rest st ho hwd
  have hd : b.roundOf = none ∨ ∀ c, (Op.call ⟨.value fo, args, argTypes⟩) ≠ .defer c := .inr (fun c e => by cases e)
  have rf := rv_sound st.gl st.tr hf hx
  have rvv := rvs_sound st.gl st.tr has hv
  cases hfv : evT tmps fo <;> rw [hfv] at rf <;> cases rf
  rename_i p hE
  have hex := fun w => exec_call (P := P) (dst := dst) (c := default) (ty := ty) (pos := pos) (after := after) (guard := guard) (args := args) (argTypes := argTypes) hfv w
  have rargs : ARs E vs ((#[] : Array Value) ++ args.map (evT tmps)).toList := by simpa using rvv
  obtain ⟨f1, ts, as1, bd, E', F', w', q1, x1, l1, p1, m', rr⟩ := sc.run E (inFx F w) w0 w _ p (mkF b tmps (.inRegion ops (i :: rest) :: k) df) cs rfl st.mr.enter st.gl rargs hE
  have mX := st.mr.exit x1.le p1 sc.lc m'
  have h1 := st_round (rest := rest) (k := k) (df := df) (cs := cs) (P := P) (w := w) ho hwd hd (by rw [hex]; exact q1)
  cases r with
  | ret v =>
    obtain ⟨v', hav, steps⟩ := rr
    refine ⟨rfl, E', outFx F F', df, cs, w', v', x1, rfl, rfl, st.mono x1 rfl mX, CS.refl st.uk, rfl, .v _ _ hav, ?_⟩
    have h2 := steps
    rw [finish_mkF, ho] at h2
    exact .head h1 h2
  | pan ch =>
    obtain ⟨ch', hch, steps⟩ := rr
    have h2 := steps
    rw [raise_mkF] at h2
    exact ⟨rfl, E', outFx F F', df, cs, w', _, ch', x1, rfl, rfl, st.mono x1 rfl mX, CS.refl st.uk, rfl, hch, .head h1 h2⟩

/-! ### panic, defer, recover -/
theorem pan_opR {x : RX} {t : Nat} {v : V} (ho : rop P o = some (.pan x)) (hx : rv gl s.tm x = some (.iface t v)) : OpR P gl fr o s (.pan [⟨.iface t v, false⟩] s) := by
  obtain ⟨dst, op, ty, pos, after, guard⟩ := o
  have hk := rop_kind ho
  intro E F w0 w b tmps df cs k ops i rest st hoi hw
  cases op with
  | panic y =>
    simp only [rop] at ho
    cases hy : rx y with
    | none => rw [hy] at ho; cases ho
    | some z =>
      rw [hy] at ho; cases ho
      have rx := rv_sound st.gl st.tr hy hx
      cases hcv : evT tmps y <;> rw [hcv] at rx <;> cases rx
      rename_i v' rv'
      have h1 : (execOp (evT tmps) ⟨dst, .panic y, ty, pos, after, guard⟩).run P w = .halt (.panic (.iface t v')) w := by
        simp [execOp, hcv, Instr.panic]
      exact ⟨rfl, E, F, df, cs, w, _, _, Ext.refl _ _, rfl, rfl, st, CS.refl st.uk, rfl, .cons (.mk _ _ _ (.iface t v v' rv')) .nil, .one (st_pan hoi hw (.inr fun c e => by cases e) h1)⟩
  | call c =>
    exfalso
    obtain ⟨callee, args, argTypes⟩ := c
    cases callee with
    | value f => simp only [rop] at ho; split at ho <;> cases ho
    | invoke f n => simp [rop] at ho
    | builtin b =>
      simp only [rop] at ho
      unfold rbuiltin at ho
      split at ho
      · split at ho <;> cases ho
      · split at ho <;> cases ho
      · split at ho <;> cases ho
      · split at ho <;> cases ho
      · split at ho
        · split at ho
          · split at ho
            · cases ho
            · split at ho
              · split at ho <;> cases ho
              · cases ho
          · cases ho
        · cases ho
      · split at ho <;> cases ho
      · split at ho
        · simp only [Option.map_eq_some_iff] at ho; obtain ⟨_, _, e⟩ := ho; cases e
        · cases ho
      · split at ho
        · simp only [Option.map_eq_some_iff] at ho; obtain ⟨_, _, e⟩ := ho; cases e
        · cases ho
      · cases ho
  | defer c =>
    exfalso
    obtain ⟨callee, args, argTypes⟩ := c
    cases callee with
    | value f => simp only [rop] at ho; split at ho <;> cases ho
    | invoke f n => simp [rop] at ho
    | builtin b => simp [rop] at ho
  | mapUpdate t m k x => exfalso; simp only [rop] at ho; split at ho <;> first | (cases ho; done) | skip; simp only [Option.map_eq_some_iff] at ho; obtain ⟨_, _, e⟩ := ho; cases e
  | insert t m k x => exfalso; simp only [rop] at ho; split at ho <;> first | (cases ho; done) | skip; simp only [Option.map_eq_some_iff] at ho; obtain ⟨_, _, e⟩ := ho; cases e
  | _ => exfalso; simp [kindOp, kindRO] at hk

theorem rop_dfr {x : RX} {as : List RX} (ho : rop P o = some (.dfr x as)) : ∃ dst ty pos after guard f args argTypes, o = ⟨dst, .defer ⟨.value f, args, argTypes⟩, ty, pos, after, guard⟩ ∧ rx f = some x ∧ rxs args.toList = some as := by
  obtain ⟨dst, op, ty, pos, after, guard⟩ := o
  have hk := rop_kind ho
  cases op with
  | defer c =>
    obtain ⟨callee, args, argTypes⟩ := c
    cases callee with
    | value f =>
      simp only [rop] at ho
      split at ho
      · rename_i f1 as1 h1 h2; cases ho; exact ⟨_, _, _, _, _, f, args, argTypes, rfl, h1, h2⟩
      · cases ho
    | invoke f n => simp [rop] at ho
    | builtin b => simp [rop] at ho
  | call c =>
    exfalso
    obtain ⟨callee, args, argTypes⟩ := c
    cases callee with
    | value f => simp only [rop] at ho; split at ho <;> cases ho
    | invoke f n => simp [rop] at ho
    | builtin b =>
      simp only [rop] at ho
      unfold rbuiltin at ho
      split at ho
      · split at ho <;> cases ho
      · split at ho <;> cases ho
      · split at ho <;> cases ho
      · split at ho <;> cases ho
      · split at ho
        · split at ho
          · split at ho
            · cases ho
            · split at ho
              · split at ho <;> cases ho
              · cases ho
          · cases ho
        · cases ho
      · split at ho <;> cases ho
      · split at ho
        · simp only [Option.map_eq_some_iff] at ho; obtain ⟨_, _, e⟩ := ho; cases e
        · cases ho
      · split at ho
        · simp only [Option.map_eq_some_iff] at ho; obtain ⟨_, _, e⟩ := ho; cases e
        · cases ho
      · cases ho
  | panic x => exfalso; simp only [rop, Option.map_eq_some_iff] at ho; obtain ⟨_, _, e⟩ := ho; cases e
  | mapUpdate t m k x => exfalso; simp only [rop] at ho; split at ho <;> first | (cases ho; done) | skip; simp only [Option.map_eq_some_iff] at ho; obtain ⟨_, _, e⟩ := ho; cases e
  | insert t m k x => exfalso; simp only [rop] at ho; split at ho <;> first | (cases ho; done) | skip; simp only [Option.map_eq_some_iff] at ho; obtain ⟨_, _, e⟩ := ho; cases e
  | _ => exfalso; simp [kindOp, kindRO] at hk

theorem dfr_opR {x : RX} {as : List RX} {f : FuncId} {first cap vs : List V} (hr : fr.rnd = none) (ho : rop P o = some (.dfr x as)) (hx : rv gl s.tm x = some (.fn (.func f) first cap)) (hv : rvs gl s.tm as = some vs) :
    OpR P gl fr o s (.val (.v undefV) { s with df := .call ⟨.func f, cap, first ++ vs⟩ :: s.df }) := by
  obtain ⟨dst, ty, pos, after, guard, fo, args, argTypes, rfl, hf, has⟩ := rop_dfr ho
  intro E F w0 w b tmps df cs k ops i rest st ho hw
  have hro : b.roundOf = none := by have := st.fr.rnd; rw [hr] at this; exact this
  have rf := rv_sound st.gl st.tr hf hx
  have rvv := rvs_sound st.gl st.tr has hv
  cases hfv : evT tmps fo <;> rw [hfv] at rf <;> cases rf
  rename_i fi cp ra rc
  have hrun : (execOp (evT tmps) ⟨dst, .defer ⟨.value fo, args, argTypes⟩, ty, pos, after, guard⟩).run P w = .ok (.defer { target := .fn (.func f) cp, args := fi ++ args.map (evT tmps) }) w := by
    simp only [execOp, resolve, hfv, Deferred.ofValue, Sem.run_bind, Sem.run_pure, Result.andThen_ok]
  refine ⟨rfl, E, F, _, cs, w, undef, Ext.refl _ _, rfl, rfl, ⟨st.mr, st.tr, .cons (.call f cap (first ++ vs) cp _ rc ?_) st.dr, st.uk, st.fr, st.gl⟩, CS.refl st.uk, rfl, .v _ _ (.tup [] #[] .nil), .one (st_defer ho hw hro hrun)⟩
  simp only [Array.toList_append, Array.toList_map]
  exact ra.append rvv

theorem rop_reco (ho : rop P o = some .reco) : ∃ dst ty pos after guard args argTypes, o = ⟨dst, .call ⟨.builtin .recover, args, argTypes⟩, ty, pos, after, guard⟩ := by
  obtain ⟨dst, op, ty, pos, after, guard⟩ := o
  have hk := rop_kind ho
  cases op with
  | call c =>
    obtain ⟨callee, args, argTypes⟩ := c
    cases callee with
    | value f => simp only [rop] at ho; split at ho <;> cases ho
    | invoke f n => simp [rop] at ho
    | builtin b =>
      simp only [rop] at ho
      unfold rbuiltin at ho
      split at ho
      · split at ho <;> cases ho
      · split at ho <;> cases ho
      · split at ho <;> cases ho
      · split at ho <;> cases ho
      · split at ho
        · split at ho
          · split at ho
            · cases ho
            · split at ho
              · split at ho <;> cases ho
              · cases ho
          · cases ho
        · cases ho
      · exact ⟨_, _, _, _, _, args, argTypes, rfl⟩
      · split at ho
        · simp only [Option.map_eq_some_iff] at ho; obtain ⟨_, _, e⟩ := ho; cases e
        · cases ho
      · split at ho
        · simp only [Option.map_eq_some_iff] at ho; obtain ⟨_, _, e⟩ := ho; cases e
        · cases ho
      · cases ho
  | defer c =>
    exfalso
    obtain ⟨callee, args, argTypes⟩ := c
    cases callee with
    | value f => simp only [rop] at ho; split at ho <;> cases ho
    | invoke f n => simp [rop] at ho
    | builtin b => simp [rop] at ho
  | panic x => exfalso; simp only [rop, Option.map_eq_some_iff] at ho; obtain ⟨_, _, e⟩ := ho; cases e
  | mapUpdate t m k x => exfalso; simp only [rop] at ho; split at ho <;> first | (cases ho; done) | skip; simp only [Option.map_eq_some_iff] at ho; obtain ⟨_, _, e⟩ := ho; cases e
  | insert t m k x => exfalso; simp only [rop] at ho; split at ho <;> first | (cases ho; done) | skip; simp only [Option.map_eq_some_iff] at ho; obtain ⟨_, _, e⟩ := ho; cases e
  | _ => exfalso; simp [kindOp, kindRO] at hk

/-- what a recover sees: the value, and what is left. -/
def recoA : Option AMode → V × Option AMode
  | some (.pan (⟨v, false⟩ :: older)) => (v, some (.pan (⟨v, true⟩ :: older)))
  | u => (.nili, u)

theorem reco_opR (hr : fr.rnd = none) (ho : rop P o = some .reco) : OpR P gl fr o s (.val (.v (recoA s.u).1) { s with u := (recoA s.u).2 }) := by
  obtain ⟨dst, ty, pos, after, guard, args, argTypes, rfl⟩ := rop_reco ho
  intro E F w0 w b tmps df cs k ops i rest st ho hw
  have hro : b.roundOf = none := by have := st.fr.rnd; rw [hr] at this; exact this
  have hrun : (execOp (evT tmps) ⟨dst, .call ⟨.builtin .recover, args, argTypes⟩, ty, pos, after, guard⟩).run P w = .ok .recover w := by
    rw [exec_builtin]; rfl
  by_cases hc : ∃ v older, s.u = some (.pan (⟨v, false⟩ :: older))
  · obtain ⟨v, older, hu⟩ := hc
    have huk := st.uk
    rw [hu] at huk
    obtain ⟨hkind, c, rst, rfl, hm⟩ := huk
    cases hcm : c.mode with
    | run => rw [hcm] at hm; cases hm
    | returning => rw [hcm] at hm; cases hm
    | panicking ch =>
      rw [hcm] at hm
      cases hm with
      | pan _ _ hch =>
        cases hch with
        | cons h1 t1 =>
          cases h1 with
          | mk _ v' _ hv' =>
            rename_i older'
            have hst := st_recover (P := P) (b := b) (df := df) (k := k) (cs := c :: rst) (rest := rest) ho hw hro hrun
            have htr : tryRecover (mkF b tmps (.inRegion ops (i :: rest) :: k) df) (c :: rst) = some (v', { c with mode := .panicking ({ v := v', recovered := true } :: older') } :: rst) := by
              simp [tryRecover, mkF, hkind, hcm]
            rw [htr] at hst
            have hre : recoA s.u = (v, some (.pan (⟨v, true⟩ :: older))) := by rw [hu]; rfl
            rw [hre]
            refine ⟨rfl, E, F, df, _, w, v', Ext.refl _ _, rfl, rfl, ⟨st.mr, st.tr, st.dr, ⟨hkind, _, rst, rfl, .pan _ _ (.cons (.mk _ _ _ hv') t1)⟩, st.fr, st.gl⟩, by rw [hu]; exact ⟨c, rst, _, rfl, rfl⟩, by rw [hu]; rfl, .v _ _ hv', .one hst⟩
  · have hre : recoA s.u = (.nili, s.u) := by
      unfold recoA
      split
      · rename_i v older e; exact absurd ⟨v, older, e⟩ hc
      · rfl
    have hst := st_recover (P := P) (b := b) (df := df) (k := k) (cs := cs) (rest := rest) ho hw hro hrun
    have htr : tryRecover (mkF b tmps (.inRegion ops (i :: rest) :: k) df) cs = none := by
      have huk := st.uk
      cases hu : s.u with
      | none =>
        rw [hu] at huk
        have hk : b.kind = .normal := huk
        simp [tryRecover, mkF, hk]
      | some m =>
        rw [hu] at huk
        obtain ⟨hkind, c, rst, rfl, hm⟩ := huk
        cases m with
        | ret =>
          cases hcm : c.mode <;> rw [hcm] at hm <;> cases hm
          simp [tryRecover, mkF, hkind, hcm]
        | pan ch =>
          cases hcm : c.mode <;> rw [hcm] at hm <;> cases hm
          rename_i ch' hch
          cases hch with
          | nil => simp [tryRecover, mkF, hkind, hcm]
          | cons h1 t1 =>
            cases h1 with
            | mk v v' rr hv' =>
              cases rr with
              | true => simp [tryRecover, mkF, hkind, hcm]
              | false => exact absurd ⟨_, _, hu⟩ hc
    rw [htr] at hst
    rw [hre]
    exact ⟨rfl, E, F, df, cs, w, _, Ext.refl _ _, rfl, rfl, st, CS.refl st.uk, rfl, .v _ _ .nili, .one hst⟩
end
end Go.VM
