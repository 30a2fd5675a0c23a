/- The machine of values: leaving a function; calls, by what their bodies do. -/
import Derived.Test.YtdmpeinbbcjamaaVmCut
import Derived.Defers
set_option linter.unusedVariables false
set_option linter.unusedSimpArgs false
namespace Go.VM
open Go.RowKit
variable {P : Program} {gl : List Nat}

/-! ### results -/
def resV (P : Program) (h : H) (tm : TM) : List ResultVar → Option (List V)
  | [] => some []
  | .tmp t :: rs => match tg tm t, resV P h tm rs with
    | some (.v v), some l => some (v :: l)
    | _, _ => none
  | .cell a t :: rs => match tg tm a, aggN P t, resV P h tm rs with
    | some av, some n, some l => (ldA h av n).map (· :: l)
    | _, _, _ => none

def retV : List V → V
  | [v] => v
  | vs => .tup vs

theorem resV_sound {E : Env} {F : Fx} {h : H} {w0 w : World} {nt : Nat} {tm : TM} {tmps : Array Value} (m : MR E F h w0 w) (r : TR E F.loc nt tm tmps) : ∀ {rs : List ResultVar} {vs : List V}, resV P h tm rs = some vs →
    ∃ vs' : List Value, (rs.mapM (m := Sem) (resF tmps)).run P w = .ok vs' w ∧ ARs E vs vs'
  | [], vs, hv => by simp [resV] at hv; subst hv; exact ⟨[], rfl, .nil⟩
  | .tmp t :: rs, vs, hv => by
    simp only [resV] at hv
    split at hv
    · rename_i v l ht hl
      cases hv
      obtain ⟨v', a1, a2⟩ := r.2 t _ ht
      have a2 := tvr_v a2
      obtain ⟨l', b1, b2⟩ := resV_sound m r hl
      refine ⟨v' :: l', ?_, .cons _ _ _ _ a2 b2⟩
      rw [List.mapM_cons]
      have hg : tmps.getD t undef = v' := by simp [Array.getD_eq_getD_getElem?, a1]
      simp only [Sem.run_bind, resF_tmp, hg, Sem.run_pure, Result.andThen_ok, b1]
    · cases hv
  | .cell a t :: rs, vs, hv => by
    simp only [resV] at hv
    split at hv
    · rename_i av n l ht hn hl
      simp only [Option.map_eq_some_iff] at hv
      obtain ⟨v, hv1, rfl⟩ := hv
      obtain ⟨a', a1, a2⟩ := r.2 a _ ht
      obtain ⟨l', b1, b2⟩ := resV_sound m r hl
      obtain ⟨v', c1, c2⟩ := ldA_sound m a2 hn hv1
      have hA : ∃ A, a' = .pointer (some A) := by
        cases a2 with
        | v x _ rx =>
          cases rx with
          | ptr b o p e => exact ⟨_, rfl⟩
          | _ => simp [ldA] at hv1
        | l d o p e => exact ⟨_, rfl⟩
        | e cs blk off e => exact ⟨_, rfl⟩
      obtain ⟨A, rfl⟩ := hA
      have hget : tmps.getD a undef = .pointer (some A) := by simp [Array.getD_eq_getD_getElem?, a1]
      have c1' : (loadVar t A).run P w = .ok v' w := by simpa [Instr.loadAt, Instr.sureAddr] using c1
      refine ⟨v' :: l', ?_, .cons _ _ _ _ c2 b2⟩
      rw [List.mapM_cons]
      simp only [Sem.run_bind, resF_cell hget, c1', Sem.run_pure, Result.andThen_ok, b1]
    · cases hv

theorem results_sound {E : Env} {F : Fx} {h : H} {w0 w : World} {nt : Nat} {tm : TM} {tmps : Array Value} (m : MR E F h w0 w) (r : TR E F.loc nt tm tmps) {fn : Func} {vs : List V} (hv : resV P h tm fn.results.toList = some vs) :
    ∃ v', (results fn tmps).run P w = .ok v' w ∧ AR E (retV vs) v' := by
  obtain ⟨vs', h1, h2⟩ := resV_sound (P := P) m r hv
  have hm : (fn.results.mapM (m := Sem) (resF tmps)).run P w = .ok vs'.toArray w := by
    rw [Array.mapM_eq_mapM_toList, Sem.run_map, h1]; rfl
  have hres : results fn tmps = (do let vs ← fn.results.mapM (resF tmps); pure (if h : vs.size = 1 then vs[0] else .tuple vs)) := by
    unfold results
    congr 2
  refine ⟨if h : vs'.toArray.size = 1 then vs'.toArray[0] else .tuple vs'.toArray, ?_, ?_⟩
  · rw [hres]
    simp only [Sem.run_bind, hm, Result.andThen_ok, Sem.run_pure]
  · cases h2 with
    | nil => exact AR.tup (E := E) [] #[] .nil
    | cons v v' l l' hv2 ht => cases ht with
      | nil => simpa [retV] using hv2
      | cons a a' l l' ha hl =>
        have h0 : ¬ ((v' :: a' :: l').toArray.size = 1) := by simp
        rw [dif_neg h0]
        exact AR.tup (E := E) (v :: a :: l) (v' :: a' :: l').toArray (.cons _ _ _ _ hv2 (.cons _ _ _ _ ha hl))

/-! ### deferred calls -/
def settleA : AMode → AMode
  | .pan (⟨_, true⟩ :: _) => .ret
  | m => m

def raisedA : AMode → List PE → AMode
  | .ret, ch => .pan ch
  | .pan o, ch => .pan (ch ++ o)

theorem no_goexit {E : Env} : ∀ {ch : List PE} {ch' : List PanicEntry}, All₂ (PER E) ch ch' → ch'.dropWhile (!·.goexit) = []
  | _, _, .nil => rfl
  | _, _, .cons h t => by cases h; simp [List.dropWhile, no_goexit t]

theorem settle_sound {E : Env} {m : AMode} {m' : FrameMode} (r : ModeR E m m') : ModeR E (settleA m) (settle m') := by
  cases r with
  | ret => exact .ret
  | pan ch ch' h =>
    cases h with
    | nil => exact .pan [] [] .nil
    | cons h t =>
      cases h with
      | mk v v' b hv =>
        cases b with
        | true => simp only [settle, no_goexit t, settleA]; exact .ret
        | false => exact .pan _ _ (.cons (.mk v v' false hv) t)

theorem raised_sound {E : Env} {m : AMode} {m' : FrameMode} {ch : List PE} {ch' : List PanicEntry} (r : ModeR E m m') (h : All₂ (PER E) ch ch') : ModeR E (raisedA m ch) (raised m' ch') := by
  cases r with
  | ret => exact .pan _ _ h
  | pan o o' ho => exact .pan _ _ (h.append ho)

theorem modeR_run {E : Env} {m : AMode} {m' : FrameMode} (r : ModeR E m m') : m' ≠ .run := by cases r <;> simp

theorem SLeave.ret {fn : Func} {tm : TM} {u : Option AMode} {h : H} {vs : List V} {v : V} (hv : resV P h tm fn.results.toList = some vs) (hle : VLe (retV vs) v) : SLeave P gl fn tm [] .ret u h (.ret v) u h := by
  intro E F w0 w fr cs nt mr g tr dr mo uk hfn hro
  have hd : fr.defers = [] := by cases hdd : fr.defers with | nil => rfl | cons a l => rw [hdd] at dr; cases dr
  have hmm : fr.mode = .returning := by cases hmm : fr.mode <;> rw [hmm] at mo <;> cases mo
  obtain ⟨v', h1, h2⟩ := results_sound (P := P) mr tr hv
  exact ⟨E, F, w, cs, fr, Ext.refl _ _, rfl, mr, uk, CS.refl uk, rfl, Steps.refl _ _, rfl, rfl, hro, hd, hmm, fn, v', hfn, h1, hle E v' h2⟩

theorem SLeave.pan {fn : Func} {tm : TM} {u : Option AMode} {h : H} {ch : List PE} : SLeave P gl fn tm [] (.pan ch) u h (.pan ch) u h := by
  intro E F w0 w fr cs nt mr g tr dr mo uk hfn hro
  have hd : fr.defers = [] := by cases hdd : fr.defers with | nil => rfl | cons a l => rw [hdd] at dr; cases dr
  obtain ⟨ch', hmm, hch⟩ : ∃ ch', fr.mode = .panicking ch' ∧ All₂ (PER E) ch ch' := by
    cases hmm : fr.mode <;> rw [hmm] at mo <;> cases mo
    exact ⟨_, rfl, by assumption⟩
  exact ⟨E, F, w, cs, fr, Ext.refl _ _, rfl, mr, uk, CS.refl uk, rfl, Steps.refl _ _, rfl, rfl, hro, hd, ch', fn, hmm, hch, hfn⟩

/-- what a deferred call leaves to do. -/
def afterD (m : AMode) : AEnd → AMode
  | .ret _ => settleA m
  | .pan ch => raisedA m ch

theorem SLeave.call {fn : Func} {tm : TM} {u u' : Option AMode} {h h2 h' : H} {f : FuncId} {cap args ws : List V} {ds : List AD} {m m2 : AMode} {q r : AEnd} (hw : Weak (args ++ cap) ws)
    (sc : SCall P gl f ws (some m) h q (some m2) h2) (next : SLeave P gl fn tm ds (afterD m2 q) u h2 r u' h') : SLeave P gl fn tm (.call ⟨.func f, cap, args⟩ :: ds) m u h r u' h' := by
  intro E F w0 w fr cs nt mr g tr dr mo uk hfn hro
  cases hdd : fr.defers with
  | nil => rw [hdd] at dr; cases dr
  | cons d0 ds' =>
    rw [hdd] at dr
    cases dr with
    | cons hd0 hds =>
      cases hd0 with
      | call _ _ _ c' a' hc ha =>
        have rargs : ARs E ws (a' ++ c').toList := by rw [Array.toList_append]; exact hw _ _ (ha.append hc)
        let fr1 : Frame := { fr with defers := ds' }
        have huk : UK E (some m) .deferred (fr1 :: cs) := ⟨rfl, fr1, cs, rfl, mo⟩
        obtain ⟨fn1, hfn1, hb1, hname⟩ := sc.fn
        obtain ⟨E2, F2, w2, c2, fr2, x2, l2, p2, mr2, uk2, cs2, is2, steps2, b1, b2, b3, b4, lv⟩ := sc.run E (inFx F w) w0 w _ .deferred (fr1 :: cs) rfl mr.enter g rargs huk
        have mX := mr.exit x2.le p2 sc.lc mr2
        obtain ⟨c, rst, mm, e1, e2⟩ := cs2
        cases e1
        subst e2
        obtain ⟨_, c3, rst3, e3, mo2⟩ := uk2
        cases e3
        have hinv : (invoke (.fn (.func f) c') a').run P w = .ok (.enter f (a' ++ c')) w := by
          simp only [invoke]; exact run_callFunc hfn1 hb1 hname _ _
        have hst0 := step_defer (P := P) (cs := cs) (modeR_run mo) hdd rfl hinv
        have last : ∃ mx : FrameMode, ModeR E2 (afterD m2 q) mx ∧ Steps P (lone fr cs w) (lone { fr1 with mode := mx } cs w2) := by
          cases q with
          | ret v =>
            obtain ⟨hm, fnr, v', hfnr, hres, hav⟩ := lv
            have hgo : fr2.going P w2 (.returned v') := ⟨hm, b4, fnr, hfnr, hres⟩
            have hs2 := step_going_returned (cs := cs) (c := { fr1 with mode := mm }) b2 hgo
            exact ⟨settle mm, settle_sound mo2, .head hst0 (steps2.trans (.one hs2))⟩
          | pan ch =>
            obtain ⟨ch', fnr, hm, hch, hfnr⟩ := lv
            have hgo : fr2.going P w2 (.panicked ch') := ⟨hm, b4, fnr, hfnr⟩
            have hs2 := step_going_panicked (cs := cs) (c := { fr1 with mode := mm }) hgo
            exact ⟨raised mm ch', raised_sound mo2 hch, .head hst0 (steps2.trans (.one hs2))⟩
        obtain ⟨mx, hmx, hsteps⟩ := last
        obtain ⟨E4, F4, w4, c4, fr4, a1, a0, a2, a3, a4, a5, a6, a7, a8, a9, a10, a11⟩ := next E2 (outFx F F2) w0 w2 { fr1 with mode := mx } cs nt mX (g.mono x2.le) (tr.mono x2.le (fun _ _ e => e)) (hds.mono fun _ _ => ADR.mono x2.le) hmx (uk.mono x2.le) hfn hro
        exact ⟨E4, F4, w4, c4, fr4, x2.trans a1, a0, a2, a3, a4, a5, hsteps.trans a6, a7, a8, a9, a10, a11⟩

/-! ### calls -/
def argT : Nat → List V → TM
  | _, [] => []
  | i, v :: vs => (i, .v v) :: argT (i + 1) vs

theorem argT_get : ∀ {vs : List V} {i t : Nat} {v : TV}, tg (argT i vs) t = some v → ∃ u, v = .v u ∧ i ≤ t ∧ vs[t - i]? = some u
  | [], i, t, v, h => by simp [argT, tg] at h
  | a :: vs, i, t, v, h => by
    simp only [argT] at h
    rw [tg_cons] at h
    split at h
    · rename_i e; cases h; subst e; exact ⟨a, rfl, Nat.le_refl _, by simp⟩
    · obtain ⟨u, h1, h2, h3⟩ := argT_get h
      refine ⟨u, h1, by omega, ?_⟩
      rw [show t - i = (t - (i + 1)) + 1 by omega]; simpa using h3

/-- what is known when a call begins. -/
structure Begun (gl : List Nat) (args : List V) (h : H) (E : Env) (F : Fx) (w0 w : World) (args' : Array Value) : Prop where
  loc : F.loc = noL
  mr : MR E F h w0 w
  gl : GL E gl
  args : ARs E args args'.toList

theorem Begun.bound {args : List V} {h : H} {E : Env} {F : Fx} {w0 w : World} {args' : Array Value} (b : Begun gl args h E F w0 w args') : Bound E h.nxt := fun k hk => ⟨(b.mr.fresh k hk).1, (b.mr.fresh k hk).2.2⟩

/-- a call, by its body; what was made and is named by nothing is forgotten. -/
theorem SCall.of {f : FuncId} {fn : Func} {body : Code} {args : List V} {u : Option AMode} {h : H} {x : X} {s' : S} {md : AMode} {r : AEnd} {u' : Option AMode} {h1 h' : H} (hfn : P.funcs[f]? = some fn) (hb : fn.body = some body) (hname : (fn.name == "runtime.NumGoroutine") = false)
    (hle : Nat.ble args.length fn.ntmps = true) (hbody : SItem P gl ⟨fn.ntmps, none, f⟩ (.code body) ⟨argT 0 args, [], u, { h with lc := [] }⟩ x s')
    (hx : ((x = .norm ∨ x = .ret) ∧ md = .ret) ∨ ∃ ch, x = .panic ch ∧ md = .pan ch) (hlv : SLeave P gl fn s'.tm s'.df md s'.u s'.h r u' h1)
    (hlc : h'.lc = h.lc) (hn : h.nxt ≤ h'.nxt) (hob : ∀ b, h'.nxt ≤ b → h'.ob b = none) (hob2 : ∀ b, b < h'.nxt → h'.ob b = h1.ob b)
    (href : (∃ E F w0 w args', Begun gl args h E F w0 w args') → (∀ b, b < h'.nxt → (h1.ob b = h.ob b ∨ ∀ o, h1.ob b = some o → ORefLt h'.nxt o)) ∧ (match r with | .ret v => RefLt h'.nxt v | .pan ch => ∀ e ∈ ch, RefLt h'.nxt e.v) ∧
      (match u' with | none => True | some .ret => True | some (.pan ch) => ∀ e ∈ ch, RefLt h'.nxt e.v)) :
    SCall P gl f args u h r u' h' := by
  refine ⟨hlc, ⟨fn, hfn, by rw [hb]; rfl, hname⟩, ?_⟩
  intro E F w0 w args' kind cs hF m g ra huk
  have begun : Begun gl args h E F w0 w args' := ⟨hF, m, g, ra⟩
  have hle' : args.length ≤ fn.ntmps := Nat.le_of_ble_eq_true hle
  let b : Frame := { (default : Frame) with fn := f, kind := kind }
  have hlen : args'.size = args.length := by rw [ra.length]; simp
  let tmps := args' ++ Array.replicate (fn.ntmps - args'.size) undef
  have henter : Frame.enter P f args' kind = mkF b tmps [.code body] [] := by
    simp only [Frame.enter, mkF, hfn, b, tmps]
    simp [hb]; rfl
  have hro : b.roundOf = none := rfl
  have m0 : MR E F { h with lc := [] } w0 w := m.forget rfl (fun _ _ h => h) (fun d p cs hp => by rw [hF] at hp; cases hp)
  have st : StR gl E F ⟨fn.ntmps, none, f⟩ ⟨argT 0 args, [], u, { h with lc := [] }⟩ b tmps [] cs w0 w := by
    refine ⟨m0, ⟨by simp [tmps]; omega, fun t v ht => ?_⟩, .nil, ?_, ⟨rfl, rfl⟩, g⟩
    · obtain ⟨u1, rfl, _, h3⟩ := argT_get ht
      obtain ⟨v', h4, h5⟩ := ra.get _ _ h3
      have h2' : args'[t]? = some v' := by simpa using h4
      have : t < args'.size := (Array.getElem?_eq_some_iff.1 h2').1
      exact ⟨v', by simp only [tmps]; rw [Array.getElem?_append_left this]; exact h2', .v _ _ h5⟩
    · cases u with
      | none => exact huk
      | some mm => exact huk
  obtain ⟨E1, F1, t1, d1, c1, w1, a1, a0, a2, a3, a4, a5⟩ := hbody E F w0 w b tmps [] cs [] st
  -- the body is done
  have mid : ∃ fr1 : Frame, Steps P (lone (Frame.enter P f args' kind) cs w) (lone fr1 c1 w1) ∧ ModeR E1 md fr1.mode ∧ fr1.tmps = t1 ∧ fr1.defers = d1 ∧ fr1.kind = kind ∧ fr1.fn = f ∧ fr1.roundOf = none := by
    rcases hx with ⟨hx | hx, rfl⟩ | ⟨ch, hx, rfl⟩
    · subst hx; exact ⟨_, by rw [henter]; exact a5.trans (.one (st_fall hro)), .ret, rfl, rfl, rfl, rfl, rfl⟩
    · subst hx; obtain ⟨k', a5⟩ := a5; exact ⟨_, by rw [henter]; exact a5.trans (.one (st_ret hro)), .ret, rfl, rfl, rfl, rfl, rfl⟩
    · subst hx; obtain ⟨todo, ch', hch, a5⟩ := a5; exact ⟨_, by rw [henter]; exact a5, .pan _ _ hch, rfl, rfl, rfl, rfl, rfl⟩
  obtain ⟨fr1, q1, q2, q3, q4, q5, q6, q7⟩ := mid
  obtain ⟨E2, F2, w2, c2, fr2, b1, b0, b2, b3, b4, b5, b6, b7, b8, b9, b10, b11⟩ := hlv E1 F1 w0 w1 fr1 c1 fn.ntmps a2.mr a2.gl (by rw [q3]; exact a2.tr) (by rw [q4]; exact a2.dr) q2 (by rw [q5]; exact a2.uk) (by rw [q6]; exact hfn) q7
  -- and now what is not named goes
  have x12 : Ext E { h with lc := [] } E2 h1 := a1.trans b1
  have mL := b2.forgetLoc (L := noL) (fun d p hp => by cases hp)
  obtain ⟨r1, r2, r3⟩ := href ⟨E, F, w0, w, args', begun⟩
  have hB := begun.bound
  have mC : MR (E2.cut h'.nxt) { F2 with loc := noL } ⟨h'.nxt, h'.ob, h'.lc⟩ w0 w2 := by
    refine mL.cut rfl (Nat.le_trans m.glo hn) hob hob2 fun k o p hk ho hp => ?_
    rcases r1 k hk with e | e
    · rw [e] at ho
      have hlt := m.nxt_of ho
      have : E.ob k = some p := by rw [← x12.old k hlt]; exact hp
      exact ObjR.cut (fun j hj => hB j (Nat.le_trans hn hj)) (m.obj k o p ho this)
    · exact e o ho
  have cle : E.le (E2.cut h'.nxt) := by
    refine ⟨fun k p hk => ?_, fun B i v hf => x12.le.fz B i v hf, fun k n p hk => ?_⟩
    · exact cut_ob (x12.le.ob k p hk) (Nat.lt_of_lt_of_le (hB.lt hk) hn)
    · exact cut_tk (x12.le.tk k n p hk) (Nat.lt_of_lt_of_le (hB.ltk hk) hn)
  have xC : Ext E h (E2.cut h'.nxt) h' := by
    refine ⟨cle, fun k hk => ?_, hn, fun k o hk he ho hnt => ?_⟩
    · simp only [Env.cut]; rw [if_pos (by omega)]; exact x12.old k hk
    · rw [hob2 k (by omega)]; exact x12.ghost k o hk he ho hnt
  have pers : ∀ {l : List PE} {l' : List PanicEntry}, (∀ e ∈ l, RefLt h'.nxt e.v) → All₂ (PER E2) l l' → All₂ (PER (E2.cut h'.nxt)) l l' := by
    intro l l' hl hall
    induction hall with
    | nil => exact .nil
    | @cons a bb l m ha ht ih =>
      refine .cons ?_ (ih (fun e he => hl e (List.mem_cons_of_mem _ he)))
      cases ha with
      | mk v v' rr hv => exact .mk v v' rr (hl _ (List.mem_cons_self ..) _ _ hv)
  have ukC : UK (E2.cut h'.nxt) u' kind c2 := by
    rw [q5] at b3
    cases u' with
    | none => exact b3
    | some mm =>
      obtain ⟨z1, c, rest, z2, z3⟩ := b3
      refine ⟨z1, c, rest, z2, ?_⟩
      cases mm with
      | ret => cases hcm : c.mode <;> rw [hcm] at z3 <;> cases z3; exact .ret
      | pan ch =>
        cases hcm : c.mode <;> rw [hcm] at z3 <;> cases z3
        exact .pan _ _ (pers r3 (by assumption))
  refine ⟨E2.cut h'.nxt, { F2 with loc := noL }, w2, c2, fr2, xC, rfl, b0.trans a0, mC, ukC, CS.trans a3 b4 a4, b5.trans a4, q1.trans b6, b7.trans q6, b8.trans q5, b9, b10, ?_⟩
  cases r with
  | ret v =>
    obtain ⟨z1, fnr, v', z2, z3, z4⟩ := b11
    exact ⟨z1, fnr, v', z2, z3, r2 _ _ z4⟩
  | pan ch =>
    obtain ⟨ch', fnr, z1, z2, z3⟩ := b11
    exact ⟨ch', fnr, z1, pers r2 z2, z3⟩

/-! ### the plain cases -/
/-- the body is done, no call is deferred, and this is the result. -/
def Ret (P : Program) (fn : Func) (args : List V) (gl : List Nat) (h : H) (v : V) (h' : H) (s' : S) : Prop :=
  s'.df = [] ∧ s'.u = none ∧ (∃ vs, resV P s'.h s'.tm fn.results.toList = some vs ∧ VLe (retV vs) v) ∧ (∀ b, b < h'.nxt → h'.ob b = s'.h.ob b) ∧
    ((∃ E F w0 w args', Begun gl args h E F w0 w args') → (∀ b, b < h'.nxt → (s'.h.ob b = h.ob b ∨ ∀ o, s'.h.ob b = some o → ORefLt h'.nxt o)) ∧ RefLt h'.nxt v)

def retX (Q : S → Prop) : X → S → Prop
  | .ret, s => Q s
  | _, _ => False

theorem SCall.ret {f : FuncId} {fn : Func} {body : Code} {args : List V} {h h' : H} {v : V} (hfn : P.funcs[f]? = some fn) (hb : fn.body = some body) (hname : (fn.name == "runtime.NumGoroutine") = false)
    (hle : Nat.ble args.length fn.ntmps = true) (hlc : h'.lc = h.lc) (hn : h.nxt ≤ h'.nxt) (hob : ∀ b, h'.nxt ≤ b → h'.ob b = none)
    (hw : WC P gl ⟨fn.ntmps, none, f⟩ body ⟨argT 0 args, [], none, { h with lc := [] }⟩ (Ret P fn args gl h v h') (retX (Ret P fn args gl h v h'))) : SCall P gl f args none h (.ret v) none h' := by
  have fin : ∀ (x : X) (s' : S), SItem P gl ⟨fn.ntmps, none, f⟩ (.code body) ⟨argT 0 args, [], none, { h with lc := [] }⟩ x s' → (x = .norm ∨ x = .ret) → Ret P fn args gl h v h' s' → SCall P gl f args none h (.ret v) none h' := by
    intro x s' hi hx hr
    obtain ⟨h1, h2, ⟨vs, h3, h4⟩, h5, h6⟩ := hr
    refine SCall.of (h1 := s'.h) (md := .ret) (u' := none) hfn hb hname hle hi (.inl ⟨hx, rfl⟩) ?_ hlc hn hob h5 (fun hbg => ⟨(h6 hbg).1, (h6 hbg).2, trivial⟩)
    rw [h1, h2]
    exact SLeave.ret h3 h4
  rcases hw with ⟨s', a, b⟩ | ⟨x, s', hx, a, b⟩
  · exact fin _ s' a (.inl rfl) b
  · cases x with
    | norm => exact absurd rfl hx
    | ret => exact fin _ s' a (.inr rfl) b
    | exit i => exact b.elim
    | panic ch => exact b.elim

/-- a call by something more that is known when it begins. -/
theorem SCall.known {f : FuncId} {args : List V} {u u' : Option AMode} {h h' : H} {r : AEnd} (hlc : h'.lc = h.lc) (hfn : ∃ fn, P.funcs[f]? = some fn ∧ fn.body.isSome = true ∧ (fn.name == "runtime.NumGoroutine") = false)
    (k : (∃ E F w0 w args', Begun gl args h E F w0 w args') → SCall P gl f args u h r u' h') : SCall P gl f args u h r u' h' :=
  ⟨hlc, hfn, fun E F w0 w args' kind cs hF m g ra huk => (k ⟨E, F, w0, w, args', hF, m, g, ra⟩).run E F w0 w args' kind cs hF m g ra huk⟩

/-- a call that leaves memory as it was. -/
def RetP (P : Program) (fn : Func) (h : H) (v : V) (s' : S) : Prop :=
  s'.df = [] ∧ s'.u = none ∧ (∃ vs, resV P s'.h s'.tm fn.results.toList = some vs ∧ VLe (retV vs) v) ∧ (∀ b, b < h.nxt → s'.h.ob b = h.ob b) ∧ RefLt h.nxt v

theorem SCall.pure {f : FuncId} {fn : Func} {body : Code} {args : List V} {h : H} {v : V} (hfn : P.funcs[f]? = some fn) (hb : fn.body = some body) (hname : (fn.name == "runtime.NumGoroutine") = false)
    (hle : Nat.ble args.length fn.ntmps = true)
    (hw : (∃ E F w0 w args', Begun gl args h E F w0 w args') → WC P gl ⟨fn.ntmps, none, f⟩ body ⟨argT 0 args, [], none, { h with lc := [] }⟩ (RetP P fn h v) (retX (RetP P fn h v))) : SCall P gl f args none h (.ret v) none h := by
  refine SCall.known rfl ⟨fn, hfn, by rw [hb]; rfl, hname⟩ fun bg => ?_
  obtain ⟨E, F, w0, w, args', begun⟩ := bg
  have up : ∀ s', RetP P fn h v s' → Ret P fn args gl h v h s' := by
    intro s' ⟨a, b, c, d, e⟩
    exact ⟨a, b, c, fun k hk => (d k hk).symm, fun _ => ⟨fun k hk => .inl (d k hk), e⟩⟩
  refine SCall.ret hfn hb hname hle rfl (Nat.le_refl _) (fun b hb => (begun.mr.fresh b hb).2.1) ((hw ⟨E, F, w0, w, args', begun⟩).mono up fun x s' hx => ?_)
  cases x with
  | ret => exact up s' hx
  | _ => exact hx.elim

/-- less is known of the result. -/
theorem SCall.weak {f : FuncId} {args : List V} {u u' : Option AMode} {h h' : H} {v v' : V} (s : SCall P gl f args u h (.ret v) u' h') (hv : VLe v v') : SCall P gl f args u h (.ret v') u' h' := by
  refine ⟨s.lc, s.fn, fun E F w0 w args' kind cs hF m g ra huk => ?_⟩
  obtain ⟨E', F', w', cs', fr', a1, a2, a3, a4, a5, a6, a7, a8, a9, a10, a11, a12, z1, fnr, x, z2, z3, z4⟩ := s.run E F w0 w args' kind cs hF m g ra huk
  exact ⟨E', F', w', cs', fr', a1, a2, a3, a4, a5, a6, a7, a8, a9, a10, a11, a12, z1, fnr, x, z2, z3, hv E' x z4⟩

/-- more is given than is asked for. -/
theorem SCall.args {f : FuncId} {args args2 : List V} {u u' : Option AMode} {h h' : H} {r : AEnd} (s : SCall P gl f args u h r u' h') (hw : Weak args2 args) : SCall P gl f args2 u h r u' h' :=
  ⟨s.lc, s.fn, fun E F w0 w args' kind cs hF m g ra huk => s.run E F w0 w args' kind cs hF m g (hw _ _ ra) huk⟩
end Go.VM
