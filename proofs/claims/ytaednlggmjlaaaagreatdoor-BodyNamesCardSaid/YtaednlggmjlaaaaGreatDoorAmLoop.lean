/- The abstract machine: loops over functions. -/
import Derived.Test.YtaednlggmjlaaaaGreatDoorAmStepR
import Derived.Defers
set_option linter.unusedVariables false
set_option linter.unusedSimpArgs false
namespace Go.AM
noncomputable section
open Go.RowKit
variable {P : Program}
section
variable {b : Frame} {tmps : Array Value} {df : List Deferred} {k : List Item} {cs : List Frame} {w : World}

theorem st_rangeFunc {f : Operand} {ps : Array Tmp} {as bd : Code} {g : FuncId} {fi cp : Array Value} {fn : Func} (hro : b.roundOf = none) (hf : evT tmps f = .func (.func g) fi cp) (hfn : P.funcs[g]? = some fn) (hb : fn.body.isSome = true) (hn : (fn.name == "runtime.NumGoroutine") = false) :
    step P (lone (mkF b tmps (.code (.rangeFunc f ps as bd) :: k) df) cs w) =
      .next (lone (Frame.enter P g ((fi ++ #[.func (.yield (w.heap.size + 1)) #[] #[]]) ++ cp) .normal) (mkF b tmps (.inRangeFunc (w.heap.size + 1) :: k) ({ target := .collected w.heap.size, args := #[] } :: df) :: cs)
        { w with heap := (w.heap.push (.deferred (some []))).push (.loop { state := .ready, pending := none, fn := b.fn, tmps, params := ps, assign := as, body := bd, defers := w.heap.size }) }) := by
  have he := mkF_eval b tmps (.inRangeFunc (w.heap.size + 1) :: k) ({ target := .collected w.heap.size, args := #[] } :: df)
  have hcf := run_callFunc (P := P) hfn hb hn
  have hrs : ∀ w' : World, (resolve (evT tmps) { callee := .value f, args := #[.const (.func (.yield (w.heap.size + 1)) #[] #[])], argTypes := #[] } 0).run P w' = .ok { target := .fn (.func g) cp, args := fi ++ #[.func (.yield (w.heap.size + 1)) #[] #[]] } w' := by
    intro w'
    simp only [resolve, hf, Deferred.ofValue, Sem.run_pure]
    congr 2
    congr 1
    simp [evT]
  have hinv : ∀ w' : World, (invoke (.fn (.func g) cp) (fi ++ #[.func (.yield (w.heap.size + 1)) #[] #[]])).run P w' = .ok (.enter g ((fi ++ #[.func (.yield (w.heap.size + 1)) #[] #[]]) ++ cp)) w' := by
    intro w'
    simp only [invoke]; exact hcf _ _
  simp only [mkF, hro] at he
  refine step_lone_go ?_
  simp [stepG, stepG.exec, mkF, hro, Instr.enterLoop, stepG.apply, he, hrs, hinv, -Array.append_singleton, -Array.push_append]
  rfl

theorem st_endRange {l : Nat} {jump : Option Code} {w' : World} (h : (Instr.endLoop l).run P w = .ok jump w') :
    step P (lone (mkF b tmps (.endRangeFunc l :: k) df) cs w) = .next (lone (mkF b tmps ((jump.map Item.code).toList ++ k) df) cs w') :=
  step_lone_go (by simp [stepG, stepG.exec, mkF, h])
end

theorem getObj_loop {w : World} {B : Nat} {L : Loop} (h : w.heap[B]? = some (.loop L)) : (getObj B).run P w = .ok (.loop L) w := by simp [getObj, Sem.run, h]
theorem setObj_any {w : World} {B : Nat} {ob : Go.Obj} (h : w.heap[B]? = some ob) (hc : ∀ c e f, ob ≠ .cells c e f) (o : Go.Obj) : (setObj B o).run P w = .ok () { w with heap := w.heap.setIfInBounds B o } := by
  cases ob <;> first | exact absurd rfl (hc _ _ _) | simp [setObj, Sem.run, h]

theorem big_of {E : Env} {h : H} {w0 w : World} (m : MR E h w0 w) {b : Nat} {o : Obj} (hb : h.get b = some o) (hc : ∀ op cs, o ≠ .cells op cs) : glim ≤ b := by
  rcases Nat.lt_or_ge b glim with g | g
  · obtain ⟨op, cs, e⟩ := m.glb b _ g hb; exact absurd e (hc _ _)
  · exact g

/-- an object that is no row is another. -/
theorem obj_put {E : Env} {h : H} {w0 w : World} (m : MR E h w0 w) {b : Nat} {o o' : Obj} {p : Place} {co co' : Go.Obj} (hb : h.get b = some o) (hg : glim ≤ b) (hE : E b = some p) (hw : w.heap[p.blk]? = some co)
    (hr : ObjR E o' p { w with heap := w.heap.setIfInBounds p.blk co' }) :
    MR E (h.put b o') w0 { w with heap := w.heap.setIfInBounds p.blk co' } ∧ Ext E h E (h.put b o') := by
  refine put_sound m hb hE hg (fun k hk => ?_) (by simp) rfl rfl rfl hr
  rw [Array.getElem?_setIfInBounds, if_neg (fun e => hk e.symm)]

theorem set_same {w : World} {B : Nat} {co co' : Go.Obj} (h : w.heap[B]? = some co) : (w.heap.setIfInBounds B co')[B]? = some co' := by
  have : B < w.heap.size := (Array.getElem?_eq_some_iff.1 h).1
  simp [this]

theorem push_last (h : Array Go.Obj) (x : Go.Obj) : (h.push x)[h.size]? = some x := by simp

/-- a new object. -/
theorem obj_new {E : Env} {h h' : H} {w0 w : World} (m : MR E h w0 w) {b : Nat} {o : Obj} (hn : h.new o = some (b, h')) (co : Go.Obj) (hr : ∀ E' : Env, E.le E' → ObjR E' o ⟨w.heap.size, 0, 0⟩ { w with heap := w.heap.push co }) :
    ∃ E', E' b = some ⟨w.heap.size, 0, 0⟩ ∧ Ext E h E' h' ∧ MR E' h' w0 { w with heap := w.heap.push co } := by
  obtain ⟨m1, x1, hEb, hget, hlt, hgb, hbn⟩ := ghost_new m hn
  have hle := upd_le (p := ⟨w.heap.size, 0, 0⟩) hEb
  refine ⟨upd E b ⟨w.heap.size, 0, 0⟩, by unfold upd; rw [if_pos rfl], ⟨hle, fun k hk => by unfold upd; rw [if_neg (by omega)], x1.nxt, x1.ghost⟩, ?_⟩
  exact place_sound m1 hlt hEb hgb co rfl fun o ho => by rw [hget] at ho; cases ho; exact hr _ hle

theorem rangeFunc_sound {C : Cfg} (pr : PrOk C) {rec : Req → M Res} (S : Sound C rec) {fr : Fr} {f : Operand} {ps : Array Tmp} {as bd : Code} {s : AM.S} {x : X} {s' : AM.S}
    (h : stepR C rec (.code fr (.rangeFunc f ps as bd) s) = .ok (.x x s')) : SItem C.P C.gl fr (.code (.rangeFunc f ps as bd)) s x s' := by
  simp only [stepR] at h
  split at h
  · rename_i g first cap r h1 hr hf hn1
    split at h
    · cases h
    · rename_i l h2 hn2
      intro E w0 w b tmps df cs k st
      have hro : b.roundOf = none := by have := st.fr.rnd; rw [hr] at this; exact this
      have rf := ev_sound st.gl st.tr hf
      cases hfv : evT tmps f <;> rw [hfv] at rf <;> cases rf
      rename_i fi cp ra rc
      obtain ⟨E1, e1, x1, m1⟩ := obj_new st.mr hn1 (.deferred (some [])) fun E' hE' => ⟨[], by simp, .nil⟩
      let Lc : Loop := { state := .ready, pending := none, fn := b.fn, tmps, params := ps, assign := as, body := bd, defers := w.heap.size }
      obtain ⟨E2, e2, x2, m2⟩ := obj_new m1 hn2 (.loop Lc) fun E' hE' => ⟨Lc, push_last _ _, rfl, rfl, st.fr.fn, rfl, rfl, rfl, (st.tr.mono x1.le).mono hE'⟩
      have hsz : (w.heap.push (.deferred (some []))).size = w.heap.size + 1 := by simp
      have e1' := x2.le _ _ e1
      have x12 := x1.trans x2
      have st2 := st.mono x12 m2
      have hmark : ADR E2 (.collected r) { target := .collected w.heap.size, args := #[] } := .collected r _ e1'
      have rargs : ARs E2 ((first ++ [.fn (.yield l) [] []]) ++ cap) ((fi ++ #[Value.func (.yield (w.heap.size + 1)) #[] #[]]) ++ cp).toList := by
        have hy : AR E2 (.fn (.yield l) [] []) (.func (.yield (w.heap.size + 1)) #[] #[]) := by
          have := AR.yld (E := E2) l _ e2
          simpa using this
        simp only [Array.toList_append]
        exact ((ra.mono x12.le).append (.cons _ _ _ _ hy .nil)).append (rc.mono x12.le)
      let cf := mkF b tmps (.inRangeFunc (w.heap.size + 1) :: k) ({ target := .collected w.heap.size, args := #[] } :: df)
      split at h
      · cases h
      · cases h
      · rename_i ch u3 h3 hrec
        cases h
        obtain ⟨sc, fn, hfn, hb⟩ := S.call _ _ _ _ _ _ _ hrec
        obtain ⟨E3, w3, cs3, fr3, x3, m3, uk3, cse, hu, steps, q1, q2, q3, q4, ch', fn3, hm, hch, hfn3⟩ := sc E2 w0 _ _ .normal (cf :: cs) m2 st2.gl rargs rfl
        have hcs : cs3 = cf :: cs := cse
        subst hcs
        have hs0 := st_rangeFunc (P := C.P) (w := w) (k := k) (cs := cs) (df := df) (ps := ps) (as := as) (bd := bd) hro hfv hfn hb (pr.names _ _ hfn hb)
        have hleave : fr3.leaving C.P w3 (.panicked ch') := ⟨hm, q4, fn3, hfn3⟩
        have hs := step_leave_panicked (cs := cs) (c := cf) hleave
        have st3 := st2.mono x3 m3
        refine ⟨E3, tmps, _, cs, w3, x12.trans x3, ⟨m3, st3.tr, .cons (hmark.mono x3.le) st3.dr, st3.uk, st3.fr, st3.gl⟩, CS.refl st.uk, rfl, .inRangeFunc (w.heap.size + 1) :: k, ch', hch, ?_⟩
        exact .head hs0 (steps.trans (.one hs))
      · rename_i v3 u3 h3 hrec
        obtain ⟨sc, fn, hfn, hb⟩ := S.call _ _ _ _ _ _ _ hrec
        obtain ⟨E3, w3, cs3, fr3, x3, m3, uk3, cse, hu, steps, q1, q2, q3, q4, hm, fn3, v', hfn3, hres, hav⟩ := sc E2 w0 _ _ .normal (cf :: cs) m2 st2.gl rargs rfl
        have hcs : cs3 = cf :: cs := cse
        subst hcs
        have hs0 := st_rangeFunc (P := C.P) (w := w) (k := k) (cs := cs) (df := df) (ps := ps) (as := as) (bd := bd) hro hfv hfn hb (pr.names _ _ hfn hb)
        have hleave : fr3.leaving C.P w3 (.returned v') := ⟨hm, q4, q2, fn3, hfn3, hres⟩
        have hs := step_leave_returned (cs := cs) (c := cf) hleave
        have hfin : cf.finish v' = mkF b tmps (.endRangeFunc (w.heap.size + 1) :: k) ({ target := .collected w.heap.size, args := #[] } :: df) := rfl
        rw [hfin] at hs
        have st3 := st2.mono x3 m3
        have hsteps : Steps C.P (lone (mkF b tmps (.code (.rangeFunc f ps as bd) :: k) df) cs w) (lone (mkF b tmps (.endRangeFunc (w.heap.size + 1) :: k) ({ target := .collected w.heap.size, args := #[] } :: df)) cs w3) :=
          .head hs0 (steps.trans (.one hs))
        split at h
        · rename_i lp hl
          split at h
          · cases h
          · rename_i hbusy
            have e3 := x3.le _ _ e2
            have hgl := big_of m3 hl (fun op cs e => by cases e)
            obtain ⟨L, k1, k2, k3, k4, k5, k6, k7, k8⟩ := m3.obj l _ _ hl e3
            have k1' : w3.heap[w.heap.size + 1]? = some (.loop L) := by simpa using k1
            obtain ⟨m4, x4⟩ := obj_put m3 (co' := .loop { L with state := .exhausted }) hl hgl e3 k1 (o' := .loop { lp with state := .exhausted })
              ⟨{ L with state := .exhausted }, set_same k1, rfl, k3, k4, k5, k6, k7, k8⟩
            have hend : (Instr.endLoop (w.heap.size + 1)).run C.P w3 = .ok lp.pending { w3 with heap := w3.heap.setIfInBounds (w.heap.size + 1) (.loop { L with state := .exhausted }) } := by
              have hbs : (L.state == LoopState.busy) = false := by rw [k2]; simpa using hbusy
              have hset := setObj_any (P := C.P) k1' (fun _ _ _ e => by cases e) (.loop { L with state := .exhausted })
              rw [← k3]
              simp only [Instr.endLoop, Instr.getLoop, Sem.run_bind, getObj_loop k1', Result.andThen_ok, Sem.run_pure, hbs, Bool.false_eq_true, if_false, hset]
            have hs4 := st_endRange (b := b) (tmps := tmps) (df := { target := .collected w.heap.size, args := #[] } :: df) (k := k) (cs := cs) hend
            have st4 := st3.mono x4 m4
            have stF : StR C.gl E3 fr { s with df := .collected r :: s.df, h := h3.put l (.loop { lp with state := .exhausted }) } b tmps ({ target := .collected w.heap.size, args := #[] } :: df) cs w0 _ :=
              ⟨m4, st4.tr, .cons (hmark.mono x3.le) st4.dr, st4.uk, st4.fr, st4.gl⟩
            have heq : (⟨w.heap.size + 1, 0, 0⟩ : Place) = ⟨(w.heap.push (.deferred (some []))).size, 0, 0⟩ := by simp
            split at h
            · rename_i hp
              cases h
              rw [hp] at hs4
              refine ⟨E3, tmps, _, cs, _, (x12.trans x3).trans x4, stF, CS.refl st.uk, rfl, ?_⟩
              have := hsteps.trans (.one hs4)
              show Steps _ _ _
              simpa using this
            · rename_i hp
              cases h
              rw [hp] at hs4
              refine ⟨E3, tmps, _, cs, _, (x12.trans x3).trans x4, stF, CS.refl st.uk, rfl, k, ?_⟩
              have := hsteps.trans (.one hs4)
              simpa using this
            · rename_i id hp
              cases h
              rw [hp] at hs4
              refine ⟨E3, tmps, _, cs, _, (x12.trans x3).trans x4, stF, CS.refl st.uk, rfl, k, rfl, ?_⟩
              have := hsteps.trans (.one hs4)
              simpa using this
            · cases h
        · cases h
  · cases h

/-! ### calls, and leaving a function -/
section
variable {b : Frame} {tmps : Array Value} {df : List Deferred} {k : List Item} {cs : List Frame} {w : World}
theorem st_fall (hro : b.roundOf = none) : step P (lone (mkF b tmps [] df) cs w) = .next (lone { mkF b tmps [] df with mode := .returning } cs w) :=
  step_lone_go (by simp [stepG, stepG.exec, mkF, hro])
theorem st_ret (hro : b.roundOf = none) : step P (lone (mkF b tmps (.code .ret :: k) df) cs w) = .next (lone { mkF b tmps (.code .ret :: k) df with mode := .returning } cs w) :=
  step_lone_go (by simp [stepG, stepG.exec, mkF, hro])
end

theorem setAll_get {E : Env} : ∀ (vs : List V) (vs' : List Value), ARs E vs vs' → ∀ (i : Nat) (tm : T V), i + vs.length ≤ lim → ∀ t v, (setAll tm i vs).get t = some v →
    (tm.get t = some v) ∨ ∃ v', i ≤ t ∧ vs'[t - i]? = some v' ∧ AR E v v'
  | _, _, .nil, i, tm, h, t, v, ht => .inl ht
  | _, _, .cons a a' l l' ha hl, i, tm, h, t, v, ht => by
    simp only [List.length_cons] at h
    rcases setAll_get l l' hl (i + 1) _ (by omega) t v ht with h1 | ⟨v', h1, h2, h3⟩
    · rw [T.get_set _ _ _ _ _ (fu_lim (by omega))] at h1
      split at h1
      · rename_i e; cases h1; subst e; exact .inr ⟨a', Nat.le_refl _, by simp, ha⟩
      · exact .inl h1
    · refine .inr ⟨v', by omega, ?_, h3⟩
      rw [show t - i = (t - (i + 1)) + 1 by omega]; simpa using h2

theorem call_sound {C : Cfg} (pr : PrOk C) {rec : Req → M Res} (S : Sound C rec) {f : FuncId} {args : List V} {u : Option AMode} {h : H} {r : AEnd} {u' : Option AMode} {h' : H}
    (hs : stepR C rec (.call f args u h) = .ok (.e r u' h')) : SCall C.P C.gl f args u h r u' h' ∧ ∃ fn, C.P.funcs[f]? = some fn ∧ fn.body.isSome = true := by
  simp only [stepR] at hs
  split at hs
  · cases hs
  · rename_i fn hfn
    split at hs
    · cases hs
    · rename_i body hbody
      split at hs
      · cases hs
      · rename_i hle
        simp only [Bool.and_eq_true] at hle
        have hl1 := Nat.le_of_ble_eq_true hle.1
        have hl2 := Nat.le_of_ble_eq_true hle.2
        refine ⟨?_, fn, hfn, by rw [hbody]; rfl⟩
        intro E w0 w args' kind cs m g ra huk
        let b : Frame := { (default : Frame) with fn := f, kind := kind }
        have hlen : args'.size = args.length := by rw [ra.length]; simp
        let tmps := args' ++ Array.replicate (fn.ntmps - args'.size) undef
        have henter : Frame.enter C.P f args' kind = mkF b tmps [.code body] [] := by
          simp only [Frame.enter, mkF, hfn, b, tmps]
          simp [hbody]; rfl
        have hro : b.roundOf = none := rfl
        have st : StR C.gl E ⟨fn.ntmps, none, f⟩ ⟨setAll .leaf 0 args, [], u, h⟩ b tmps [] cs w0 w := by
          refine ⟨m, ⟨by simp [tmps]; omega, fun t v ht => ?_⟩, .nil, ?_, ⟨hl2, rfl, rfl⟩, g⟩
          · rcases setAll_get args args'.toList ra 0 .leaf (by omega) t v ht with h1 | ⟨v', h1, h2, h3⟩
            · rw [T.get_leaf] at h1; cases h1
            · have h2' : args'[t]? = some v' := by simpa using h2
              have : t < args'.size := (Array.getElem?_eq_some_iff.1 h2').1
              exact ⟨v', by simp only [tmps]; rw [Array.getElem?_append_left this]; exact h2', h3⟩
          · cases u with
            | none => exact huk
            | some mm => exact huk
        -- what comes behind the body
        have fin : ∀ (s : AM.S) (md : AMode) (fr1 : Frame) (E1 : Env) (c1 : List Frame) (w1 : World), C.P = C.P → rec (.leave fn s.tm s.df md s.u s.h) = .ok (.e r u' h') → Ext E h E1 s.h → MR E1 s.h w0 w1 → TR E1 fn.ntmps s.tm fr1.tmps → All₂ (ADR E1) s.df fr1.defers → ModeR E1 md fr1.mode → UK E1 s.u kind c1 →
            CS u cs c1 → s.u.isSome = u.isSome → fr1.kind = kind → fr1.fn = f → fr1.roundOf = none → Steps C.P (lone (Frame.enter C.P f args' kind) cs w) (lone fr1 c1 w1) →
            ∃ E' w' cs' fr', Ext E h E' h' ∧ MR E' h' w0 w' ∧ UK E' u' kind cs' ∧ CS u cs cs' ∧ u'.isSome = u.isSome ∧ Steps C.P (lone (Frame.enter C.P f args' kind) cs w) (lone fr' cs' w') ∧
              fr'.fn = f ∧ fr'.kind = kind ∧ fr'.roundOf = none ∧ fr'.defers = [] ∧ LeaveR C.P E' r fr' w' := by
          intro s md fr1 E1 c1 w1 _ hrec x1 m1 t1 d1 mo1 u1 cs1 is1 hk hf hr0 st1
          subst hk
          obtain ⟨E2, w2, c2, fr2, a1, a2, a3, a4, a5, a6, a7, a8, a9, a10, a11⟩ := S.leave _ _ _ _ _ _ _ _ _ hrec E1 w0 w1 fr1 c1 fn.ntmps m1 (g.mono x1.le) t1 d1 mo1 u1 (by rw [hf]; exact hfn) hr0
          exact ⟨E2, w2, c2, fr2, x1.trans a1, a2, a3, CS.trans cs1 a4 is1, a5.trans is1, st1.trans a6, a7.trans hf, a8, a9, a10, a11⟩
        split at hs
        · rename_i s hrec
          obtain ⟨E1, t1, d1, c1, w1, a1, a2, a3, a4, a5⟩ := (S.code _ _ _ _ _ hrec).1 E w0 w b tmps [] cs [] st
          exact fin s .ret _ E1 c1 w1 rfl hs a1 a2.mr a2.tr a2.dr .ret a2.uk a3 a4 rfl rfl rfl (by rw [henter]; exact a5.trans (.one (st_fall hro)))
        · rename_i s hrec
          obtain ⟨E1, t1, d1, c1, w1, a1, a2, a3, a4, k', a5⟩ := (S.code _ _ _ _ _ hrec).1 E w0 w b tmps [] cs [] st
          exact fin s .ret _ E1 c1 w1 rfl hs a1 a2.mr a2.tr a2.dr .ret a2.uk a3 a4 rfl rfl rfl (by rw [henter]; exact a5.trans (.one (st_ret hro)))
        · rename_i ch s hrec
          obtain ⟨E1, t1, d1, c1, w1, a1, a2, a3, a4, todo, ch', hch, a5⟩ := (S.code _ _ _ _ _ hrec).1 E w0 w b tmps [] cs [] st
          exact fin s (.pan ch) _ E1 c1 w1 rfl hs a1 a2.mr a2.tr a2.dr (.pan _ _ hch) a2.uk a3 a4 rfl rfl rfl (by rw [henter]; exact a5)
        · cases hs
        · cases hs

def resF (tmps : Array Value) : ResultVar → Sem Value
  | .tmp t => pure (tmps.getD t undef)
  | .cell a t => do loadVar t (← asAddr (tmps.getD a undef))

theorem resF_tmp (tmps : Array Value) (t : Nat) (w : World) : (resF tmps (.tmp t)).run P w = .ok (tmps.getD t undef) w := rfl
theorem resF_cell {tmps : Array Value} {a : Nat} {t : TypeId} {A : Addr} (h : tmps.getD a undef = .pointer (some A)) (w : World) : (resF tmps (.cell a t)).run P w = (loadVar t A).run P w := by
  simp only [resF, h, asAddr, Sem.run_bind, Sem.run_pure, Result.andThen_ok]

theorem resV_sound {C : Cfg} {E : Env} {h : H} {w0 w : World} {nt : Nat} {tm : T V} {tmps : Array Value} (m : MR E h w0 w) (r : TR E nt tm tmps) : ∀ {rs : List ResultVar} {vs : List V}, resV C h tm rs = some vs →
    ∃ vs' : List Value, (rs.mapM (m := Sem) (resF tmps)).run C.P w = .ok vs' w ∧ ARs E vs vs'
  | [], vs, hv => by simp [resV] at hv; subst hv; exact ⟨[], rfl, .nil⟩
  | .tmp t :: rs, vs, hv => by
    simp only [resV] at hv
    split at hv
    · rename_i v l ht hl
      cases hv
      obtain ⟨v', a1, a2⟩ := r.2 t v ht
      obtain ⟨l', b1, b2⟩ := resV_sound m r hl
      refine ⟨v' :: l', ?_, .cons _ _ _ _ a2 b2⟩
      rw [List.mapM_cons]
      have hg : tmps.getD t undef = v' := by simp [Array.getD_eq_getD_getElem?, a1]
      simp only [Sem.run_bind, resF_tmp, hg, Sem.run_pure, Result.andThen_ok, b1]
    · cases hv
  | .cell a t :: rs, vs, hv => by
    simp only [resV] at hv
    split at hv
    · rename_i b o l ht hl
      obtain ⟨v', a1, a2⟩ := r.2 a _ ht
      obtain ⟨l', b1, b2⟩ := resV_sound m r hl
      cases a2 with
      | ptr _ _ p hE =>
      have hget : tmps.getD a undef = .pointer (some ⟨p.blk, p.off + o, none⟩) := by simp [Array.getD_eq_getD_getElem?, a1]
      split at hv
      · rename_i hagg
        split at hv
        · rename_i n hn
          split at hv
          · rename_i cs hcs
            cases hv
            obtain ⟨l2, h1, h2, _⟩ := rdN_sound (P := C.P) m hE hcs
            refine ⟨.agg l2.toArray :: l', ?_, .cons _ _ _ _ (.agg _ _ h2) b2⟩
            rw [List.mapM_cons]
            simp only [Sem.run_bind, resF_cell hget, loadVar, Sem.run_pure, Result.andThen_ok, run_isAggT hagg, if_true, run_szT hn, h1, b1]
          · cases hv
        · cases hv
      · rename_i hagg
        split at hv
        · rename_i v hv1
          cases hv
          obtain ⟨v2, h1, h2, _⟩ := rd_sound m hE hv1
          refine ⟨v2 :: l', ?_, .cons _ _ _ _ h2 b2⟩
          rw [List.mapM_cons]
          simp only [Sem.run_bind, resF_cell hget, loadVar, Sem.run_pure, Result.andThen_ok, run_isAggT hagg, Bool.false_eq_true, if_false, run_load, h1, b1]
        · cases hv
      · cases hv
    · cases hv

theorem results_sound {C : Cfg} {E : Env} {h : H} {w0 w : World} {nt : Nat} {tm : T V} {tmps : Array Value} (m : MR E h w0 w) (r : TR E nt tm tmps) {fn : Func} {vs : List V} (hv : resV C h tm fn.results.toList = some vs) :
    ∃ v', (results fn tmps).run C.P w = .ok v' w ∧ AR E (retV vs) v' := by
  obtain ⟨vs', h1, h2⟩ := resV_sound (C := C) m r hv
  have hm : (fn.results.mapM (m := Sem) (resF tmps)).run C.P w = .ok vs'.toArray w := by
    rw [Array.mapM_eq_mapM_toList, Sem.run_map, h1]; rfl
  have hres : results fn tmps = (do let vs ← fn.results.mapM (resF tmps); pure (if h : vs.size = 1 then vs[0] else .tuple vs)) := by
    unfold results
    congr 2
  refine ⟨if h : vs'.toArray.size = 1 then vs'.toArray[0] else .tuple vs'.toArray, ?_, ?_⟩
  · rw [hres]
    simp only [Sem.run_bind, hm, Result.andThen_ok, Sem.run_pure]
  · cases h2 with
    | nil => exact AR.tup (E := E) [] #[] .nil
    | cons v v' l l' hv2 ht => cases ht with
      | nil => simpa [retV] using hv2
      | cons a a' l l' ha hl =>
        have h0 : ¬ ((v' :: a' :: l').toArray.size = 1) := by simp
        rw [dif_neg h0]
        exact AR.tup (E := E) (v :: a :: l) (v' :: a' :: l').toArray (.cons _ _ _ _ hv2 (.cons _ _ _ _ ha hl))
end
end Go.AM
