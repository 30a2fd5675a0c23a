/- laid for this seat: VmRange VmSl5 VmOwn VmFreeze VmRow VmFrz -/
import Derived.Test.YthacfmmgcbjagaaGreatDoorVmE
import Derived.Test.YthacfmmgcbjagaaGreatDoorVmG
section
/- The machine of values: loops over functions. -/
set_option linter.unusedVariables false
set_option linter.unusedSimpArgs false
namespace Go.VM
open Go.RowKit
variable {P : Program} {gl : List Nat}
theorem MR.big {E : Env} {F : Fx} {h : H} {w0 w : World} (m : MR E F h w0 w) {b : Nat} {o : Obj} (hb : h.ob b = some o) (hc : ∀ op cs, o ≠ .cells op cs) : glim ≤ b := by
 rcases Nat.lt_or_ge b glim with g | g
 ·obtain ⟨op, cs, e⟩ := m.glb b o g hb; exact absurd e (hc _ _)
 ·exact g
theorem SLeave.collected {fn : Func} {tm : TM} {df cs0 : List AD} {m : AMode} {u u' : Option AMode} {h h' : H} {r : AEnd} {rid : Nat} (hb : h.ob rid = some (.dfr (some cs0))) (next : SLeave P gl fn tm (cs0 ++ df) m u (h.put rid (.dfr none)) r u' h') :
  SLeave P gl fn tm (.collected rid :: df) m u h r u' h' := by
 intro E F w0 w fr cs nt mr g tr dr mo uk hfn hro
 cases hdd : fr.defers with
 | nil => rw [hdd] at dr; cases dr
 | cons d0 ds' =>
  rw [hdd] at dr
  cases dr with
  | cons hd0 hds =>
   cases hd0 with
   | collected _ p hE =>
    obtain ⟨calls, k1, k2⟩ := mr.obj rid _ p hb hE
    have hgl := mr.big hb (fun op cs e => by cases e)
    obtain ⟨m4, x4⟩ := mr.put hb hE hgl (new := .dfr none) (by intro n e; cases e) (Turn.set p.blk (.deferred none) w) ⟨none, set_same k1⟩
    have htake : (Instr.takeDeferred p.blk).run P w = .ok calls { w with heap := w.heap.setIfInBounds p.blk (.deferred none) } := by
     have hget' : (getObj p.blk).run P w = .ok (.deferred (some calls)) w := by simp [getObj, Sem.run, k1]
     have hset := setObj_any (P := P) k1 (fun _ _ _ e => by cases e) (.deferred none)
     simp only [Instr.takeDeferred, Sem.run_bind, hget', Result.andThen_ok, hset, Sem.run_pure]
    have hst := st_collected (P := P) (cs := cs) (modeR_run mo) hdd htake
    obtain ⟨E2, F2, w2, c2, fr2, a1, a0, a2, a3, a4, a5, a6, a7, a8, a9, a10, a11⟩ := next E F w0 _ { fr with defers := calls ++ ds' } cs nt m4 g tr (k2.append hds) mo uk hfn hro
    exact ⟨E2, F2, w2, c2, fr2, x4.trans a1, a0, a2, a3, a4, a5, .head hst a6, a7, a8, a9, a10, a11⟩
def setPsV (nt : Nat) : TM → List Nat → List V → Option TM
 | tm, [], [] => some tm
 | tm, d :: ds, v :: vs => match Nat.blt d nt with
  | true => setPsV nt ((d, .v v) :: tm) ds vs
  | false => none
 | _, _, _ => none
theorem setPsV_sound {E : Env} {L : Nat → Option Place} {nt : Nat} : ∀ {ds : List Nat} {vs : List V} {tm tm' : TM}, setPsV nt tm ds vs = some tm' → ∀ {vs' : List Value} {tmps : Array Value}, ARs E vs vs' → TR E L nt tm tmps →
  vs'.length = ds.length ∧ TR E L nt tm' ((ds.zip vs').foldl (fun tmps (p : Nat × Value) => tmps.setIfInBounds p.1 p.2) tmps)
 | [], [], tm, tm', h, vs', tmps, r, tr => by simp [setPsV] at h; subst h; cases r; exact ⟨rfl, tr⟩
 | d :: ds, v :: vs, tm, tm', h, vs', tmps, r, tr => by
  simp only [setPsV] at h
  split at h
  ·rename_i hd
   cases r with
   | cons _ v' _ l' hv ht =>
    have tr2 : TR E L nt ((d, .v v) :: tm) (tmps.setIfInBounds d v') := by
     have := put_TR (tm' := (d, .v v) :: tm) (dst := some d) tr (by simp only [putT, hd]) (.v _ _ hv)
     exact this
    obtain ⟨a, b⟩ := setPsV_sound h ht tr2
    exact ⟨by simp [a], b⟩
  ·cases h
 | [], _ :: _, _, _, h, _, _, _, _ => by simp [setPsV] at h
 | _ :: _, [], _, _, h, _, _, _, _ => by simp [setPsV] at h
def rndJ : X → Option (Option Code)
 | .norm => some none
 | .ret => some (some .ret)
 | .exit id => some (some (.exit id))
 | .panic _ => none
theorem SRound.of {l : Nat} {args : List V} {h h' : H} {lp lp1 lp3 : ALoop} {tm : TM} {s1 s2 : S} {x : X} {j : Option Code} (hl : h.ob l = some (.loop lp)) (hready : lp.state = .ready) (htm : setPsV lp.nt lp.tmps lp.params args = some tm)
  (hassign : SItem P gl ⟨lp.nt, some l, lp.fn⟩ (.code lp.assign) ⟨tm, [], none, { h with lc := [] }⟩ .norm s1) (hdf1 : s1.df = []) (hl1 : s1.h.ob l = some (.loop lp1)) (hr1 : lp1.state = .ready) (ha1 : lp1.body = lp.body)
  (hbody : SItem P gl ⟨lp.nt, some l, lp.fn⟩ (.code lp.body) { s1 with h := s1.h.put l (.loop { lp1 with state := .busy }) } x s2) (hdf2 : s2.df = []) (hl3 : s2.h.ob l = some (.loop lp3)) (hj : rndJ x = some j)
  (hlc : h'.lc = h.lc) (hn : h.nxt ≤ h'.nxt) (hob : ∀ b, h'.nxt ≤ b → h'.ob b = none)
  (hob2 : ∀ b, b < h'.nxt → h'.ob b = (s2.h.put l (.loop { lp3 with state := if j.isNone then .ready else .done, pending := j })).ob b)
  (href : ∀ b, b < h'.nxt → (h'.ob b = h.ob b ∨ ∀ o, h'.ob b = some o → ORefLt h'.nxt o)) : SRound P gl l args h (.ret (.bool j.isNone)) h' := by
 refine ⟨hlc, ?_⟩
 intro E F w0 w args' p c cs hF m g ra hE
 have hB : Bound E h.nxt := fun k hk => ⟨(m.fresh k hk).1, (m.fresh k hk).2.2⟩
 obtain ⟨L, k1, k2, k3, k4, k5, k6, k7, k8⟩ := m.obj l _ p hl hE
 obtain ⟨hlen, trT⟩ := setPsV_sound htm ra k8
 let ts : Array Value := (lp.params.zip args'.toList).foldl (fun tmps (p : Nat × Value) => tmps.setIfInBounds p.1 p.2) L.tmps
 have hyield : (Instr.yield p.blk args').run P w = .ok (.round p.blk L.fn ts L.assign L.body) w := by
  have hsz : args'.size = L.params.size := by
   have : args'.toList.length = L.params.toList.length := by rw [k5]; exact hlen
   simpa using this
  simp only [Instr.yield, Instr.getLoop, Sem.run_bind, getObj_loop k1, Result.andThen_ok, Sem.run_pure, hsz, ne_eq, not_true, if_false]
  congr 2
  simp only [ts]
  rw [← k5, ← Array.foldl_toList, Array.toList_zip]
 have hgl := m.big hl (fun op cs e => by cases e)
 let b : Frame := { (default : Frame) with fn := L.fn, kind := .normal, roundOf := some p.blk }
 have hround : Frame.round p.blk L.fn ts L.assign L.body .normal = mkF b ts [.code L.assign, .beginRound, .code L.body] [] := rfl
 have m0 : MR E F { h with lc := [] } w0 w := m.forget rfl (fun _ _ h => h) (fun d p cs hp => by rw [hF] at hp; cases hp)
 have st : StR gl E F ⟨lp.nt, some l, lp.fn⟩ ⟨tm, [], none, { h with lc := [] }⟩ b ts [] (c :: cs) w0 w := ⟨m0, by rw [hF]; exact trT, .nil, rfl, ⟨k4, rfl, p, hE, rfl⟩, g⟩
 obtain ⟨E1, F1, t1, d1, c1, w1, x1, pr1, st1, cs1, us1, a5⟩ := hassign E F w0 w b ts [] (c :: cs) [.beginRound, .code L.body] st
 have ec : c1 = c :: cs := cs1
 subst ec
 have e1 := x1.le.ob _ _ hE
 obtain ⟨L1, q1, q2, q3, q4, q5, q6, q7, q8⟩ := st1.mr.obj l _ p hl1 e1
 have hgl1 := st1.mr.big hl1 (fun op cs e => by cases e)
 obtain ⟨m2, x2⟩ := st1.mr.put hl1 e1 hgl1 (new := .loop { lp1 with state := .busy }) (by intro n e; cases e) (Turn.set p.blk (.loop { L1 with state := .busy }) w1)
  ⟨{ L1 with state := .busy }, set_same q1, rfl, q3, q4, q5, q6, q7, q8⟩
 have hbegin : (Instr.beginRound p.blk).run P w1 = .ok () { w1 with heap := w1.heap.setIfInBounds p.blk (.loop { L1 with state := .busy }) } := by
  have hst : L1.state = .ready := by rw [q2]; exact hr1
  have hset := setObj_any (P := P) q1 (fun _ _ _ e => by cases e) (.loop { L1 with state := .busy })
  simp only [Instr.beginRound, Instr.getLoop, Sem.run_bind, getObj_loop q1, Result.andThen_ok, Sem.run_pure, hset, hst]
 have hd1 : d1 = [] := by have := st1.dr; rw [hdf1] at this; cases this; rfl
 subst hd1
 have hs1 := st_begin (P := P) (b := b) (tmps := t1) (k := [.code L.body]) (cs := c :: cs) rfl hbegin
 have st2 : StR gl E1 F1 ⟨lp.nt, some l, lp.fn⟩ { s1 with h := s1.h.put l (.loop { lp1 with state := .busy }) } b t1 [] (c :: cs) w0 _ := st1.mono x2 rfl m2
 obtain ⟨E3, F3, t3, d3, c3, w3, x3, pr3, st3, cs3, us3, a6⟩ := hbody E1 F1 w0 _ b t1 [] (c :: cs) [] st2
 have hu1 : s1.u = none := by cases hh : s1.u with | none => rfl | some q => rw [hh] at us1; cases us1
 have ec3 : c3 = c :: cs := by
  have : CS s1.u (c :: cs) c3 := cs3
  rw [hu1] at this; exact this
 subst ec3
 have hd3 : d3 = [] := by have := st3.dr; rw [hdf2] at this; cases this; rfl
 subst hd3
 have e3 := x3.le.ob _ _ (x2.le.ob _ _ e1)
 obtain ⟨L3, z1, z2, z3, z4, z5, z6, z7, z8⟩ := st3.mr.obj l _ p hl3 e3
 have hgl3 := st3.mr.big hl3 (fun op cs e => by cases e)
 have pre : Steps P (lone (Frame.round p.blk L.fn ts L.assign L.body .normal) (c :: cs) w) (lone (mkF b t1 [.code L.body] []) (c :: cs) { w1 with heap := w1.heap.setIfInBounds p.blk (.loop { L1 with state := .busy }) }) := by
  rw [hround, k6]
  exact Steps.trans a5 (.one hs1)
 obtain ⟨m4, x4⟩ := st3.mr.put hl3 e3 hgl3 (new := .loop { lp3 with state := if j.isNone then .ready else .done, pending := j }) (by intro n e; cases e) (Turn.set p.blk (.loop { L3 with state := if j.isNone then .ready else .done, pending := j }) w3)
  ⟨{ L3 with state := if j.isNone then .ready else .done, pending := j }, set_same z1, rfl, rfl, z4, z5, z6, z7, z8⟩
 have hend : (Instr.endRound p.blk j).run P w3 = .ok (.bool j.isNone) { w3 with heap := w3.heap.setIfInBounds p.blk (.loop { L3 with state := if j.isNone then .ready else .done, pending := j }) } := by
  have hset := setObj_any (P := P) z1 (fun _ _ _ e => by cases e) (.loop { L3 with state := if j.isNone then .ready else .done, pending := j })
  simp only [Instr.endRound, Instr.getLoop, Sem.run_bind, getObj_loop z1, Result.andThen_ok, Sem.run_pure, hset]
 have x13 : Ext E { h with lc := [] } E3 (s2.h.put l (.loop { lp3 with state := if j.isNone then .ready else .done, pending := j })) := ((x1.trans x2).trans x3).trans x4
 have mL := m4.forgetLoc (L := noL) (fun d p hp => by cases hp)
 have mC : MR (E3.cut h'.nxt) { F3 with loc := noL } ⟨h'.nxt, h'.ob, h'.lc⟩ w0 { w3 with heap := w3.heap.setIfInBounds p.blk (.loop { L3 with state := if j.isNone then .ready else .done, pending := j }) } := by
  refine mL.cut rfl (Nat.le_trans m.glo hn) hob hob2 fun k o q hk ho hp => ?_
  rw [← hob2 k hk] at ho
  rcases href k hk with e | e
  ·rw [e] at ho
   have hlt := m.nxt_of ho
   have : E.ob k = some q := by rw [← x13.old k hlt]; exact hp
   exact ObjR.cut (fun i hi => hB i (Nat.le_trans hn hi)) (m.obj k o q ho this)
  ·exact e o ho
 have cle : E.le (E3.cut h'.nxt) := by
  refine ⟨fun k q hk => ?_, fun B i v hf => x13.le.fz B i v hf, fun k n q hk => ?_⟩
  ·exact cut_ob (x13.le.ob k q hk) (Nat.lt_of_lt_of_le (hB.lt hk) hn)
  ·exact cut_tk (x13.le.tk k n q hk) (Nat.lt_of_lt_of_le (hB.ltk hk) hn)
 have xC : Ext E h (E3.cut h'.nxt) h' := by
  refine ⟨cle, fun k hk => ?_, hn, fun k o hk he ho hnt => ?_⟩
  ·simp only [Env.cut]; rw [if_pos (by omega)]; exact x13.old k hk
  ·rw [hob2 k (by omega)]; exact x13.ghost k o hk he ho hnt
 have fin : ∀ (todo : List Item), ((j = none ∧ todo = []) ∨ (j = some .ret ∧ ∃ k, todo = .code .ret :: k) ∨ ∃ id k, j = some (.exit id) ∧ todo = .code (.exit id) :: k ∧ exitTo id k = none) →
   Steps P (lone (Frame.round p.blk L.fn ts L.assign L.body .normal) (c :: cs) w) (lone (mkF b t3 todo []) (c :: cs) w3) →
   ∃ f ts as bd E' F' w', (Instr.yield p.blk args').run P w = .ok (.round p.blk f ts as bd) w ∧ Ext E h E' h' ∧ F'.loc = noL ∧ F'.prot = F.prot ∧ MR E' F' h' w0 w' ∧
    RndR P E' (.ret (.bool j.isNone)) (lone (Frame.round p.blk f ts as bd .normal) (c :: cs) w) c cs w' := by
  intro todo ht hst
  have hov := st_over (P := P) (b := b) (tmps := t3) (c := c) (cs := cs) rfl rfl hend ht
  exact ⟨L.fn, ts, L.assign, L.body, E3.cut h'.nxt, { F3 with loc := noL }, _, hyield, xC, rfl, pr3.trans pr1, mC, .bool j.isNone, .bool _, hst.trans (.one hov)⟩
 rw [← k7] at a6
 cases x with
 | norm => cases hj; exact fin [] (.inl ⟨rfl, rfl⟩) (by have := pre.trans a6; exact this)
 | ret => cases hj; obtain ⟨k', a6⟩ := a6; exact fin _ (.inr (.inl ⟨rfl, k', rfl⟩)) (pre.trans a6)
 | exit id =>
  cases hj
  obtain ⟨k', e, a6⟩ := a6
  exact fin _ (.inr (.inr ⟨id, k', rfl, rfl, e⟩)) (pre.trans a6)
 | panic ch => cases hj
end Go.VM
end
section
/- The machine of values: loops over functions, over listed memory. -/
set_option linter.unusedVariables false
set_option linter.unusedSimpArgs false
namespace Go.VM
open Go.RowKit
variable {P : Program} {gl : List Nat}
section
variable {fr : Fr} {QN : S → Prop} {QX : X → S → Prop} {ds : List Nat} {anc : Nat} {hs : List (RI × List RI)} {l : List RI} {r : RI} {tm tm1 : TM} {df : List AD} {u : Option AMode} {nx : Nat} {ol : OL} {lc : LM} {es : List ER}
end
abbrev RI.mv (s d : Nat) : RI := ⟨0, 0, some (.mv (.t s)), [], some d, none⟩
abbrev RI.op (r : RO) (d : Nat) : RI := ⟨0, 0, some r, [], some d, none⟩
end Go.VM
end
section
/- The machine of values: rows that grow and are changed: appends to a slice over an object that nobody else has. -/
set_option linter.unusedVariables false
set_option linter.unusedSimpArgs false
namespace Go.VM
open Go.RowKit
variable {P : Program}
section
variable {gl : List Nat} {nt : Nat} {tm : TM} {h : H}
end
theorem Ext.relc {E E' : Env} {h h' : H} (x : Ext E h E' h') (l l' : LM) : Ext E { h with lc := l } E' { h' with lc := l' } := ⟨x.le, x.old, x.nxt, x.ghost⟩
theorem MR.relc {E : Env} {F : Fx} {h : H} {w0 w : World} (m : MR E F h w0 w) (hF : F.loc = noL) (l : LM) : MR E F { h with lc := l } w0 w :=
 m.forget rfl (fun _ _ h => h) (fun d p cs hp => by rw [hF] at hp; cases hp)
theorem SCall.relc {gl : List Nat} {f : FuncId} {args : List V} {u u' : Option AMode} {h h' : H} {r : AEnd} (s : SCall P gl f args u h r u' h') (lc : LM) : SCall P gl f args u { h with lc := lc } r u' { h' with lc := lc } := by
 refine ⟨rfl, s.fn, fun E F w0 w args' kind cs hF m g ra hu => ?_⟩
 obtain ⟨E', F', w', cs', fr', a1, a2, a3, a4, a5, a6, a7, a8, a9⟩ := s.run E F w0 w args' kind cs hF (m.relc hF h.lc) g ra hu
 exact ⟨E', F', w', cs', fr', a1.relc lc lc, a2, a3, a4.relc a2 lc, a5, a6, a7, a8, a9⟩
end Go.VM
end
section
/- The machine of values: a row that is changed no more becomes a list. -/
set_option linter.unusedVariables false
set_option linter.unusedSimpArgs false
namespace Go.VM
open Go.RowKit
variable {P : Program}
end Go.VM
end
section
/- The machine of values: listed memory whose last object is a row of a number that is not known. -/
set_option linter.unusedVariables false
set_option linter.unusedSimpArgs false
namespace Go.VM
open Go.RowKit
variable {P : Program}
def keysLt (p : OL) (N : Nat) : Prop := ∀ e ∈ p, e.1 < N
theorem keysLt.mono {p : OL} {N M : Nat} (h : keysLt p N) (k : N ≤ M) : keysLt p M := fun e he => Nat.lt_of_lt_of_le (h e he) k
section
variable {gl : List Nat} {nt : Nat} {tm : TM}
end
end Go.VM
end
section
/- The machine of values: within a frame, a row that is changed no more becomes a list. -/
set_option linter.unusedVariables false
set_option linter.unusedSimpArgs false
namespace Go.VM
open Go.RowKit
variable {P : Program}
end Go.VM
end
