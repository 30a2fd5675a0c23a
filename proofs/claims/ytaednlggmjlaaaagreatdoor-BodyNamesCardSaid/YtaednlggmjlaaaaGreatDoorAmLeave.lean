/- The abstract machine: leaving a function, and rounds. -/
import Derived.Test.YtaednlggmjlaaaaGreatDoorAmLoop
set_option linter.unusedVariables false
set_option linter.unusedSimpArgs false
namespace Go.AM
noncomputable section
open Go.RowKit
variable {P : Program}

theorem no_goexit {E : Env} : ∀ {ch : List PE} {ch' : List PanicEntry}, All₂ (PER E) ch ch' → ch'.dropWhile (!·.goexit) = []
  | _, _, .nil => rfl
  | _, _, .cons h t => by cases h; simp [List.dropWhile, no_goexit t]

theorem settle_sound {E : Env} {m : AMode} {m' : FrameMode} (r : ModeR E m m') : ModeR E (settleA m) (settle m') := by
  cases r with
  | ret => exact .ret
  | pan ch ch' h =>
    cases h with
    | nil => exact .pan [] [] .nil
    | cons h t =>
      cases h with
      | mk v v' b hv =>
        cases b with
        | true => simp only [settle, no_goexit t, settleA]; exact .ret
        | false => exact .pan _ _ (.cons (.mk v v' false hv) t)

theorem raised_sound {E : Env} {m : AMode} {m' : FrameMode} {ch : List PE} {ch' : List PanicEntry} (r : ModeR E m m') (h : All₂ (PER E) ch ch') : ModeR E (raisedA m ch) (raised m' ch') := by
  cases r with
  | ret => exact .pan _ _ h
  | pan o o' ho => exact .pan _ _ (h.append ho)

theorem modeR_run {E : Env} {m : AMode} {m' : FrameMode} (r : ModeR E m m') : m' ≠ .run := by cases r <;> simp

theorem st_collected {fr : Frame} {cs : List Frame} {w w' : World} {blk : Nat} {args : Array Value} {ds calls : List Deferred} (hm : fr.mode ≠ .run) (hd : fr.defers = { target := .collected blk, args } :: ds) (h : (Instr.takeDeferred blk).run P w = .ok calls w') :
    step P (lone fr cs w) = .next (lone { fr with defers := calls ++ ds } cs w') := by
  refine step_lone_go ?_
  cases hmode : fr.mode with
  | run => exact absurd hmode hm
  | returning => simp [stepG, unwind, hmode, hd, h]
  | panicking chain => simp [stepG, unwind, hmode, hd, h]

theorem leave_sound {C : Cfg} (pr : PrOk C) {rec : Req → M Res} (S : Sound C rec) {fn : Func} {tm : T V} {df : List AD} {m : AMode} {u : Option AMode} {h : H} {r : AEnd} {u' : Option AMode} {h' : H}
    (hs : stepR C rec (.leave fn tm df m u h) = .ok (.e r u' h')) : SLeave C.P C.gl fn tm df m u h r u' h' := by
  intro E w0 w fr cs nt mr g tr dr mo uk hfn hro
  simp only [stepR] at hs
  split at hs
  · have hd : fr.defers = [] := by cases hdd : fr.defers with | nil => rfl | cons a l => rw [hdd] at dr; cases dr
    split at hs
    · rename_i ch
      cases hs
      cases hmm : fr.mode <;> rw [hmm] at mo <;> cases mo
      rename_i ch' hch
      exact ⟨E, w, cs, fr, Ext.refl _ _, mr, uk, CS.refl uk, rfl, Steps.refl _ _, rfl, rfl, hro, hd, ch', fn, hmm, hch, hfn⟩
    · cases hmm : fr.mode <;> rw [hmm] at mo <;> cases mo
      have go : ∀ vs, resV C h tm fn.results.toList = some vs → r = .ret (retV vs) → u' = u → h' = h →
          ∃ E' w' cs' fr', Ext E h E' h' ∧ MR E' h' w0 w' ∧ UK E' u' fr.kind cs' ∧ CS u cs cs' ∧ u'.isSome = u.isSome ∧ Steps C.P (lone fr cs w) (lone fr' cs' w') ∧
            fr'.fn = fr.fn ∧ fr'.kind = fr.kind ∧ fr'.roundOf = none ∧ fr'.defers = [] ∧ LeaveR C.P E' r fr' w' := by
        rintro vs hv rfl rfl rfl
        obtain ⟨v', h1, h2⟩ := results_sound (C := C) mr tr hv
        exact ⟨E, w, cs, fr, Ext.refl _ _, mr, uk, CS.refl uk, rfl, Steps.refl _ _, rfl, rfl, hro, hd, hmm, fn, v', hfn, h1, h2⟩
      split at hs
      · rename_i vs hv; cases hs; exact go _ hv rfl rfl rfl
      · cases hs
  · rename_i rid ds
    split at hs
    · rename_i ccs hget
      cases hdd : fr.defers with
      | nil => rw [hdd] at dr; cases dr
      | cons d0 ds' =>
        rw [hdd] at dr
        cases dr with
        | cons hd0 hds =>
          cases hd0 with
          | collected _ p hE =>
            obtain ⟨calls, k1, k2⟩ := mr.obj rid _ p hget hE
            have hgl := big_of mr hget (fun op cs e => by cases e)
            obtain ⟨m4, x4⟩ := obj_put mr (co' := .deferred none) hget hgl hE k1 (o' := .dfr none) ⟨none, set_same k1⟩
            have htake : (Instr.takeDeferred p.blk).run C.P w = .ok calls { w with heap := w.heap.setIfInBounds p.blk (.deferred none) } := by
              have hget' : (getObj p.blk).run C.P w = .ok (.deferred (some calls)) w := by simp [getObj, Sem.run, k1]
              have hset := setObj_any (P := C.P) k1 (fun _ _ _ e => by cases e) (.deferred none)
              simp only [Instr.takeDeferred, Sem.run_bind, hget', Result.andThen_ok, hset, Sem.run_pure]
            have hst := st_collected (P := C.P) (cs := cs) (modeR_run mo) hdd htake
            obtain ⟨E2, w2, c2, fr2, a1, a2, a3, a4, a5, a6, a7, a8, a9, a10, a11⟩ := S.leave _ _ _ _ _ _ _ _ _ hs E w0 _ { fr with defers := calls ++ ds' } cs nt m4 g tr (k2.append hds) mo uk hfn hro
            exact ⟨E2, w2, c2, fr2, x4.trans a1, a2, a3, a4, a5, .head hst a6, a7, a8, a9, a10, a11⟩
    · cases hs
  · rename_i f cap args ds
    cases hdd : fr.defers with
    | nil => rw [hdd] at dr; cases dr
    | cons d0 ds' =>
      rw [hdd] at dr
      cases dr with
      | cons hd0 hds =>
        cases hd0 with
        | call _ _ _ c' a' hc ha =>
          have rargs : ARs E (args ++ cap) (a' ++ c').toList := by rw [Array.toList_append]; exact ha.append hc
          let fr1 : Frame := { fr with defers := ds' }
          have huk : UK E (some m) .deferred (fr1 :: cs) := ⟨rfl, fr1, cs, rfl, mo⟩
          have go : ∀ (q : AEnd) (m2 : AMode) (h2 : H), rec (.call f (args ++ cap) (some m) h) = .ok (.e q (some m2) h2) → ∀ (m3 : AMode), rec (.leave fn tm ds m3 u h2) = .ok (.e r u' h') →
              (match q with | .ret _ => m3 = settleA m2 | .pan ch => m3 = raisedA m2 ch) →
              ∃ E' w' cs' fr', Ext E h E' h' ∧ MR E' h' w0 w' ∧ UK E' u' fr.kind cs' ∧ CS u cs cs' ∧ u'.isSome = u.isSome ∧ Steps C.P (lone fr cs w) (lone fr' cs' w') ∧
                fr'.fn = fr.fn ∧ fr'.kind = fr.kind ∧ fr'.roundOf = none ∧ fr'.defers = [] ∧ LeaveR C.P E' r fr' w' := by
            intro q m2 h2 hrec m3 hlv hm3
            obtain ⟨sc, fn1, hfn1, hb1⟩ := S.call _ _ _ _ _ _ _ hrec
            obtain ⟨E2, w2, c2, fr2, x2, mr2, uk2, cs2, is2, steps2, b1, b2, b3, b4, lv⟩ := sc E w0 w _ .deferred (fr1 :: cs) mr g rargs huk
            obtain ⟨c, rst, mm, e1, e2⟩ := cs2
            cases e1
            subst e2
            obtain ⟨_, c3, rst3, e3, mo2⟩ := uk2
            cases e3
            have hinv : (invoke (.fn (.func f) c') a').run C.P w = .ok (.enter f (a' ++ c')) w := by
              simp only [invoke]; exact run_callFunc hfn1 hb1 (pr.names _ _ hfn1 hb1) _ _
            have hst0 := step_defer (P := C.P) (cs := cs) (modeR_run mo) hdd rfl hinv
            have last : ∃ mx : FrameMode, ModeR E2 m3 mx ∧ Steps C.P (lone fr cs w) (lone { fr1 with mode := mx } cs w2) := by
              cases q with
              | ret v =>
                obtain ⟨hm, fnr, v', hfnr, hres, hav⟩ := lv
                have hgo : fr2.going C.P w2 (.returned v') := ⟨hm, b4, fnr, hfnr, hres⟩
                have hs2 := step_going_returned (cs := cs) (c := { fr1 with mode := mm }) b2 hgo
                exact ⟨settle mm, by rw [hm3]; exact settle_sound mo2, .head hst0 (steps2.trans (.one hs2))⟩
              | pan ch =>
                obtain ⟨ch', fnr, hm, hch, hfnr⟩ := lv
                have hgo : fr2.going C.P w2 (.panicked ch') := ⟨hm, b4, fnr, hfnr⟩
                have hs2 := step_going_panicked (cs := cs) (c := { fr1 with mode := mm }) hgo
                exact ⟨raised mm ch', by rw [hm3]; exact raised_sound mo2 hch, .head hst0 (steps2.trans (.one hs2))⟩
            obtain ⟨mx, hmx, hsteps⟩ := last
            obtain ⟨E4, w4, c4, fr4, a1, a2, a3, a4, a5, a6, a7, a8, a9, a10, a11⟩ := S.leave _ _ _ _ _ _ _ _ _ hlv E2 w0 w2 { fr1 with mode := mx } cs nt mr2 (g.mono x2.le) (tr.mono x2.le) (hds.mono fun _ _ => ADR.mono x2.le) hmx (uk.mono x2.le) hfn hro
            exact ⟨E4, w4, c4, fr4, x2.trans a1, a2, a3, a4, a5, hsteps.trans a6, a7, a8, a9, a10, a11⟩
          split at hs
          · rename_i v m2 h2 hrec
            exact go _ _ _ hrec _ hs rfl
          · rename_i ch m2 h2 hrec
            exact go _ _ _ hrec _ hs rfl
          · cases hs
          · cases hs
  · cases hs

/-! ### rounds of a loop over a function -/
section
variable {b : Frame} {tmps : Array Value} {k : List Item} {c : Frame} {cs : List Frame} {w w' : World} {L : Nat}
theorem st_begin (hro : b.roundOf = some L) (h : (Instr.beginRound L).run P w = .ok () w') : step P (lone (mkF b tmps (.beginRound :: k) []) cs w) = .next (lone (mkF b tmps k []) cs w') :=
  step_lone_go (by simp [stepG, stepG.exec, mkF, hro, stepG.apply, h, Frame.finish])

theorem st_over {j : Option Code} {v : Value} {todo : List Item} (hro : b.roundOf = some L) (hk : b.kind = .normal) (h : (Instr.endRound L j).run P w = .ok v w')
    (ht : (j = none ∧ todo = []) ∨ (j = some .ret ∧ ∃ k, todo = .code .ret :: k) ∨ ∃ id k, j = some (.exit id) ∧ todo = .code (.exit id) :: k ∧ exitTo id k = none) :
    step P (lone (mkF b tmps todo []) (c :: cs) w) = .next (lone (c.finish v) cs w') := by
  refine step_lone_go ?_
  rcases ht with ⟨rfl, rfl⟩ | ⟨rfl, k, rfl⟩ | ⟨id, k, rfl, rfl, he⟩
  · simp [stepG, stepG.exec, mkF, hro, hk, h, doReturn]
  · simp [stepG, stepG.exec, mkF, hro, hk, h, doReturn]
  · simp [stepG, stepG.exec, mkF, hro, hk, h, doReturn, he]

theorem st_round_pan {ch : List PanicEntry} {fn : Func} (hf : P.funcs[b.fn]? = some fn) : step P (lone { mkF b tmps k [] with mode := .panicking ch } (c :: cs) w) = .next (lone (c.raise ch) cs w) :=
  step_lone_go (by simp [stepG, unwind, mkF, Frame.catches, hf])
end

theorem setPs_sound {E : Env} {nt : Nat} (hn : nt ≤ lim) : ∀ {ds : List Nat} {vs : List V} {tm tm' : T V}, setPs nt tm ds vs = some tm' → ∀ {vs' : List Value} {tmps : Array Value}, ARs E vs vs' → TR E nt tm tmps →
    vs'.length = ds.length ∧ TR E nt tm' ((ds.zip vs').foldl (fun tmps (p : Nat × Value) => tmps.setIfInBounds p.1 p.2) tmps)
  | [], [], tm, tm', h, vs', tmps, r, tr => by simp [setPs] at h; subst h; cases r; exact ⟨rfl, tr⟩
  | d :: ds, v :: vs, tm, tm', h, vs', tmps, r, tr => by
    simp only [setPs] at h
    split at h
    · rename_i hd
      cases r with
      | cons _ v' _ l' hv ht =>
        have tr2 : TR E nt (tm.set fu d v) (tmps.setIfInBounds d v') := by
          have := put_TR (tm' := T.set fu tm d v) (dst := some d) tr (by simp only [putT, hd]) hv hn
          exact this
        obtain ⟨a, b⟩ := setPs_sound hn h ht tr2
        exact ⟨by simp [a], b⟩
    · cases h
  | [], _ :: _, _, _, h, _, _, _, _ => by simp [setPs] at h
  | _ :: _, [], _, _, h, _, _, _, _ => by simp [setPs] at h

theorem round_sound {C : Cfg} (pr : PrOk C) {rec : Req → M Res} (S : Sound C rec) {l : Nat} {args : List V} {h : H} {r : AEnd} {u' : Option AMode} {h' : H}
    (hs : stepR C rec (.round l args h) = .ok (.e r u' h')) : SRound C.P C.gl l args h r h' := by
  intro E w0 w args' p c cs mr g ra hE
  simp only [stepR] at hs
  split at hs
  · rename_i lp hl
    split at hs
    · rename_i hcond
      obtain ⟨hready, hnt⟩ := hcond
      split at hs
      · cases hs
      · rename_i tm htm
        obtain ⟨L, k1, k2, k3, k4, k5, k6, k7, k8⟩ := mr.obj l _ p hl hE
        obtain ⟨hlen, trT⟩ := setPs_sound hnt htm ra k8
        let ts : Array Value := (lp.params.zip args'.toList).foldl (fun tmps (p : Nat × Value) => tmps.setIfInBounds p.1 p.2) L.tmps
        have hyield : (Instr.yield p.blk args').run C.P w = .ok (.round p.blk L.fn ts L.assign L.body) w := by
          have hsz : args'.size = L.params.size := by
            have : args'.toList.length = L.params.toList.length := by rw [k5]; exact hlen
            simpa using this
          simp only [Instr.yield, Instr.getLoop, Sem.run_bind, getObj_loop k1, Result.andThen_ok, Sem.run_pure, hsz, ne_eq, not_true, if_false]
          congr 2
          simp only [ts]
          rw [← k5, ← Array.foldl_toList, Array.toList_zip]
        have hgl := big_of mr hl (fun op cs e => by cases e)
        let b : Frame := { (default : Frame) with fn := L.fn, kind := .normal, roundOf := some p.blk }
        have hround : Frame.round p.blk L.fn ts L.assign L.body .normal = mkF b ts [.code L.assign, .beginRound, .code L.body] [] := rfl
        have st : StR C.gl E ⟨lp.nt, some l, lp.fn⟩ ⟨tm, [], none, h⟩ b ts [] [] w0 w := ⟨mr, trT, .nil, rfl, ⟨hnt, k4, rfl, p, hE, rfl⟩, g⟩
        split at hs
        · rename_i s1 hrec1
          split at hs
          · rename_i lp1 fn1 hdf1 hl1 hfn1
            split at hs
            · rename_i hready1
              obtain ⟨E1, t1, d1, c1, w1, x1, st1, cs1, us1, a5⟩ := (S.code _ _ _ _ _ hrec1).1 E w0 w b ts [] (c :: cs) [.beginRound, .code L.body] ⟨st.mr, st.tr, st.dr, st.uk, st.fr, st.gl⟩
              have ec : c1 = c :: cs := cs1
              subst ec
              have e1 := x1.le _ _ hE
              obtain ⟨L1, q1, q2, q3, q4, q5, q6, q7, q8⟩ := st1.mr.obj l _ p hl1 e1
              have hgl1 := big_of st1.mr hl1 (fun op cs e => by cases e)
              obtain ⟨m2, x2⟩ := obj_put st1.mr (co' := .loop { L1 with state := .busy }) hl1 hgl1 e1 q1 (o' := .loop { lp1 with state := .busy })
                ⟨{ L1 with state := .busy }, set_same q1, rfl, q3, q4, q5, q6, q7, q8⟩
              have hbegin : (Instr.beginRound p.blk).run C.P w1 = .ok () { w1 with heap := w1.heap.setIfInBounds p.blk (.loop { L1 with state := .busy }) } := by
                have hst : L1.state = .ready := by rw [q2]; exact hready1
                have hset := setObj_any (P := C.P) q1 (fun _ _ _ e => by cases e) (.loop { L1 with state := .busy })
                simp only [Instr.beginRound, Instr.getLoop, Sem.run_bind, getObj_loop q1, Result.andThen_ok, Sem.run_pure, hset, hst]
              have hd1 : d1 = [] := by have := st1.dr; rw [hdf1] at this; cases this; rfl
              subst hd1
              have hs1 := st_begin (P := C.P) (b := b) (tmps := t1) (k := [.code L.body]) (cs := c :: cs) rfl hbegin
              split at hs
              · rename_i x s2 hrec2
                have st2 : StR C.gl E1 ⟨lp.nt, some l, lp.fn⟩ { s1 with h := s1.h.put l (.loop { lp1 with state := .busy }) } b t1 [] (c :: cs) w0 _ := st1.mono x2 m2
                obtain ⟨E3, t3, d3, c3, w3, x3, st3, cs3, _, a6⟩ := (S.code _ _ _ _ _ hrec2).1 E1 w0 _ b t1 [] (c :: cs) [] st2
                have hu1 : s1.u = none := by cases hh : s1.u with | none => rfl | some q => rw [hh] at us1; cases us1
                have ec3 : c3 = c :: cs := by rw [hu1] at cs3; exact cs3
                subst ec3
                split at hs
                · rename_i lp3 hdf hl3
                  have hd3 : d3 = [] := by have := st3.dr; rw [hdf] at this; cases this; rfl
                  subst hd3
                  have e3 := x3.le _ _ (x2.le _ _ e1)
                  obtain ⟨L3, z1, z2, z3, z4, z5, z6, z7, z8⟩ := st3.mr.obj l _ p hl3 e3
                  have hgl3 := big_of st3.mr hl3 (fun op cs e => by cases e)
                  have xall := (x1.trans x2).trans x3
                  have pre : Steps C.P (lone (Frame.round p.blk L.fn ts L.assign L.body .normal) (c :: cs) w) (lone (mkF b t1 [.code L.body] []) (c :: cs) { w1 with heap := w1.heap.setIfInBounds p.blk (.loop { L1 with state := .busy }) }) := by
                    rw [hround, k6]
                    exact Steps.trans a5 (.one hs1)
                  have fin : ∀ (j : Option Code) (todo : List Item), ((j = none ∧ todo = []) ∨ (j = some .ret ∧ ∃ k, todo = .code .ret :: k) ∨ ∃ id k, j = some (.exit id) ∧ todo = .code (.exit id) :: k ∧ exitTo id k = none) →
                      Steps C.P (lone (Frame.round p.blk L.fn ts L.assign L.body .normal) (c :: cs) w) (lone (mkF b t3 todo []) (c :: cs) w3) →
                      (M.ok (Res.e (.ret (.bool j.isNone)) none (s2.h.put l (.loop { lp3 with state := if j.isNone then .ready else .done, pending := j }))) = M.ok (Res.e r u' h')) →
                      ∃ f ts as bd E' w', (Instr.yield p.blk args').run C.P w = .ok (.round p.blk f ts as bd) w ∧ Ext E h E' h' ∧ MR E' h' w0 w' ∧
                        RndR C.P E' r (lone (Frame.round p.blk f ts as bd .normal) (c :: cs) w) c cs w' := by
                    intro j todo ht hst he
                    cases he
                    obtain ⟨m4, x4⟩ := obj_put st3.mr (co' := .loop { L3 with state := if j.isNone then .ready else .done, pending := j }) hl3 hgl3 e3 z1 (o' := .loop { lp3 with state := if j.isNone then .ready else .done, pending := j })
                      ⟨{ L3 with state := if j.isNone then .ready else .done, pending := j }, set_same z1, rfl, rfl, z4, z5, z6, z7, z8⟩
                    have hend : (Instr.endRound p.blk j).run C.P w3 = .ok (.bool j.isNone) { w3 with heap := w3.heap.setIfInBounds p.blk (.loop { L3 with state := if j.isNone then .ready else .done, pending := j }) } := by
                      have hset := setObj_any (P := C.P) z1 (fun _ _ _ e => by cases e) (.loop { L3 with state := if j.isNone then .ready else .done, pending := j })
                      simp only [Instr.endRound, Instr.getLoop, Sem.run_bind, getObj_loop z1, Result.andThen_ok, Sem.run_pure, hset]
                    have hov := st_over (P := C.P) (b := b) (tmps := t3) (c := c) (cs := cs) rfl rfl hend ht
                    exact ⟨L.fn, ts, L.assign, L.body, E3, _, hyield, xall.trans x4, m4, .bool j.isNone, .bool _, hst.trans (.one hov)⟩
                  rw [← k7] at a6
                  cases x with
                  | norm => exact fin none [] (.inl ⟨rfl, rfl⟩) (by have := pre.trans a6; exact this) hs
                  | ret => obtain ⟨k', a6⟩ := a6; exact fin (some .ret) _ (.inr (.inl ⟨rfl, k', rfl⟩)) (pre.trans a6) hs
                  | exit id =>
                    obtain ⟨k', e, a6⟩ := a6
                    exact fin (some (.exit id)) _ (.inr (.inr ⟨id, k', rfl, rfl, e⟩)) (pre.trans a6) hs
                  | panic ch =>
                    obtain ⟨todo, ch', hch, a6⟩ := a6
                    cases hs
                    have hp := st_round_pan (P := C.P) (b := b) (tmps := t3) (k := todo) (c := c) (cs := cs) (w := w3) (ch := ch') (fn := fn1) (by show C.P.funcs[L.fn]? = _; rw [k4]; exact hfn1)
                    exact ⟨L.fn, ts, L.assign, L.body, E3, w3, hyield, xall, st3.mr, ch', hch, (pre.trans a6).trans (.one hp)⟩
                · cases hs
              · cases hs
              · cases hs
            · cases hs
          · cases hs
        · cases hs
        · cases hs
    · cases hs
  · cases hs
end
end Go.AM
