/- The machine of values: operations run as far as they compute. -/
import Derived.Test.YtdmpeinbbcjamaaVmRes2
set_option linter.unusedVariables false
set_option linter.unusedSimpArgs false
namespace Go.VM
open Go.RowKit

/-- it looks at no memory. -/
def pureRO : RO → Bool
  | .mv _ | .pick .. | .nc _ | .fa .. | .ia .. | .iaa .. | .bin .. | .eq .. | .inil .. | .un .. | .cvi .. | .cvs _ | .mkI .. | .mkF .. | .slc .. | .fld .. | .idx .. | .idxs .. | .ta .. | .ext .. | .lenS _ | .lenL _ | .cap _ | .max .. | .min .. | .bld .. => true
  | _ => false

theorem pureRO_rl {gl : List Nat} {tm : TM} {h h' : H} {ro : RO} (hp : pureRO ro = true) : rl gl tm h ro = rl gl tm h' ro := by
  cases ro <;> first | rfl | cases hp

/-- an operation that changes nothing, if it is no reading of bytes. -/
def lightX (gl : List Nat) (tm : TM) (h : H) : RO → Option TV
  | .cvb _ => none
  | ro => rl gl tm h ro

section
variable {P : Program} {gl : List Nat} {nt : Nat} {tm : TM} {h : H}

theorem lightX_eq {ro : RO} {v : TV} (hx : lightX gl tm h ro = some v) : rl gl tm h ro = some v ∧ ∀ x, ro ≠ .cvb x := by
  unfold lightX at hx
  split at hx
  · cases hx
  · rename_i hn; exact ⟨hx, hn⟩

theorem light_rl {ro : RO} {v : TV} (hx : rl gl tm h ro = some v) (hn : ∀ x, ro ≠ .cvb x) : LightR P gl nt tm h (some ro) v :=
  fun o ho => light_sound ho hx (fun x es c e => absurd e (hn x))

theorem lightX_sound {ro : RO} {v : TV} (hx : lightX gl tm h ro = some v) : LightR P gl nt tm h (some ro) v := light_rl (lightX_eq hx).1 (lightX_eq hx).2

theorem pure_sound {ro : RO} {v : TV} (hp : pureRO ro = true) (hx : rl gl tm h ro = some v) (h' : H) : LightR P gl nt tm h' (some ro) v :=
  light_rl ((pureRO_rl hp).trans hx) (fun x e => by subst e; cases hp)

theorem cvb_sound {x : RX} {es : List (List V)} {c : LC} {bs : List Nat} (hx : rv gl tm x = some (.lst es c)) (h1 : ones es) (hb : bytesOf es.flatten = some bs) : LightR P gl nt tm h (some (.cvb x)) (.v (.str bs)) :=
  fun o ho => light_sound ho (by simp only [rl, hx, hb]; rfl) (fun y es' c' e hy => by cases e; rw [hx] at hy; cases hy; exact h1)

theorem nd_of {o : Oper} {ro : RO} (ho : rop P o = some ro) (hk : Nat.beq (kindRO ro) 3 = false) : ∀ c, o.op ≠ .defer c := by
  intro c e
  have := rop_kind ho
  rw [e] at this
  simp only [kindOp, beq_iff_eq] at this
  rw [this] at hk
  cases hk

theorem del_nd {o : Oper} {ro : RO} (ho : rop P o = some ro) (hd : match ro with | .mu .. | .del .. | .clr .. => true | _ => false) : ∀ c, o.op ≠ .defer c := by
  intro c e
  obtain ⟨dst, op, ty, pos, after, guard⟩ := o
  have e : op = .defer c := e
  subst e
  obtain ⟨callee, args, argTypes⟩ := c
  cases callee with
  | value f => simp only [rop] at ho; split at ho <;> cases ho; cases hd
  | invoke f n => simp [rop] at ho
  | builtin b => simp [rop] at ho

/-! ### one operation -/
/-- what an operation makes: a list where it can; else an object. `hp` holds the slots whose memory is an object's. -/
def allocX (gl : List Nat) (tm : TM) (hp : List Nat) (d : Option Nat) (ro : RO) : Option V :=
  match d with
  | some d => match hp.contains d with
    | true => none
    | false => raf gl tm ro
  | none => none

/-- operations in order, as far as they compute; at most so many. -/
def sqp (gl : List Nat) (nt : Nat) (hp : List Nat) : Nat → List RI → S → List RI × S
  | 0, l, s => (l, s)
  | _, [], s => ([], s)
  | n + 1, r :: l, ⟨tm, df, u, h⟩ => match wantR r.gd tm with
    | none => (r :: l, ⟨tm, df, u, h⟩)
    | some false => match putT nt tm r.dst (.v undefV) with
      | some tm => sqp gl nt hp n l ⟨tm, df, u, h⟩
      | none => (r :: l, ⟨tm, df, u, h⟩)
    | some true => match r.ro with
      | none => (r :: l, ⟨tm, df, u, h⟩)
      | some ro => match kindRO ro with
        | 0 => match lightX gl tm h ro with
          | some v => match putT nt tm r.dst v with
            | some tm => sqp gl nt hp n l ⟨tm, df, u, h⟩
            | none => (r :: l, ⟨tm, df, u, h⟩)
          | none => (r :: l, ⟨tm, df, u, h⟩)
        | 1 => match r.dst with
          | none => (r :: l, ⟨tm, df, u, h⟩)
          | some d => match hp.contains d with
            | true => match rah gl tm h.nxt ro with
              | some (v, ob) => match putT nt tm (some d) (.v v) with
                | some tm => sqp gl nt hp n l ⟨tm, df, u, h.new ob⟩
                | none => (r :: l, ⟨tm, df, u, h⟩)
              | none => (r :: l, ⟨tm, df, u, h⟩)
            | false => match raf gl tm ro with
              | some v => match putT nt tm (some d) (.v v) with
                | some tm => sqp gl nt hp n l ⟨tm, df, u, h⟩
                | none => (r :: l, ⟨tm, df, u, h⟩)
              | none => match ral gl tm ro, Nat.blt d nt with
                | some cs, true => sqp gl nt hp n l ⟨(d, .l d 0) :: tpg tm d, df, u, ⟨h.nxt, h.ob, (d, cs) :: h.lc⟩⟩
                | _, _ => match rah gl tm h.nxt ro with
                  | some (v, ob) => match putT nt tm (some d) (.v v) with
                    | some tm => sqp gl nt hp n l ⟨tm, df, u, h.new ob⟩
                    | none => (r :: l, ⟨tm, df, u, h⟩)
                  | none => (r :: l, ⟨tm, df, u, h⟩)
        | 2 => match ras gl tm h ro with
          | some h' => match putT nt tm r.dst (.v undefV) with
            | some tm => sqp gl nt hp n l ⟨tm, df, u, h'⟩
            | none => (r :: l, ⟨tm, df, u, h⟩)
          | none => (r :: l, ⟨tm, df, u, h⟩)
        | _ => match rac gl tm h ro with
          | some h' => match putT nt tm r.dst (.v undefV) with
            | some tm => sqp gl nt hp n l ⟨tm, df, u, h'⟩
            | none => (r :: l, ⟨tm, df, u, h⟩)
          | none => (r :: l, ⟨tm, df, u, h⟩)

theorem does_opRR {fr : Fr} {ro : Option RO} {s : S} {tv : TV} {h' : H} (d : DoesR P gl fr.nt s.tm s.h ro tv h') : OpRR P gl fr ro s (.val tv { s with h := h' }) :=
  fun o ho => Does.opR (d o ho).2 (d o ho).1

theorem light_doesR {ro : RO} {tv : TV} (l : LightR P gl nt tm h (some ro) tv) (hk : Nat.beq (kindRO ro) 3 = false) : DoesR P gl nt tm h (some ro) tv h := fun o ho => ⟨(l o ho).does, nd_of ho hk⟩
theorem list_doesR {ro : RO} {v : V} (l : AllocFR P gl nt tm (some ro) v) (hk : Nat.beq (kindRO ro) 3 = false) : DoesR P gl nt tm h (some ro) (.v v) h := fun o ho => ⟨(l o ho).does, nd_of ho hk⟩
theorem obj_doesR {ro : RO} {v : V} {ob : Obj} (l : AllocOR P gl nt tm (some ro) h.nxt ob v) (hk : Nat.beq (kindRO ro) 3 = false) : DoesR P gl nt tm h (some ro) (.v v) (h.new ob) := fun o ho => ⟨(l.1 o ho).does l.2, nd_of ho hk⟩

theorem rah_objR {ro : RO} {b : Nat} {v : V} {ob : Obj} (ha : rah gl tm b ro = some (v, ob)) : AllocOR P gl nt tm (some ro) b ob v := by
  refine ⟨fun o ho => (rah_sound ho ha).1, ?_⟩
  intro n e
  subst e
  unfold rah at ha
  repeat' split at ha
  all_goals first | (cases ha; done) | skip
theorem raf_listR {ro : RO} {v : V} (ha : raf gl tm ro = some v) : AllocFR P gl nt tm (some ro) v := fun o ho => raf_sound ho ha
theorem ral_locR {ro : RO} {cs : List V} (ha : ral gl tm ro = some cs) : AllocLR P gl nt tm (some ro) cs := fun o ho => ⟨ral_sound ho ha, nd_of ho (by rw [ral_kind ha]; rfl)⟩

theorem sqp_sound {fr : Fr} {hp : List Nat} {x : X} {s' : S} : ∀ (n : Nat) (l : List RI) (s : S) (l2 : List RI) (s2 : S), sqp gl fr.nt hp n l s = (l2, s2) → SqR P gl fr x s' l2 s2 → SqR P gl fr x s' l s
  | 0, l, s, l2, s2, h, k => by simp only [sqp] at h; cases h; exact k
  | n + 1, [], s, l2, s2, h, k => by simp only [sqp] at h; cases h; exact k
  | n + 1, r :: l, ⟨tm, df, u, hh⟩, l2, s2, h, k => by
    simp only [sqp] at h
    split at h
    · cases h; exact k
    · rename_i hw
      split at h
      · rename_i tm1 hput; exact .skip hw hput (sqp_sound n l _ l2 s2 h k)
      · cases h; exact k
    · rename_i hw
      split at h
      · cases h; exact k
      · rename_i ro hro
        have lift : ∀ (tv : TV) (h' : H), DoesR P gl fr.nt tm hh (some ro) tv h' → OpRR P gl fr r.ro ⟨tm, df, u, hh⟩ (.val tv ⟨tm, df, u, h'⟩) := by
          intro tv h' d
          rw [hro]
          exact does_opRR (s := ⟨tm, df, u, hh⟩) d
        split at h
        · rename_i hk
          split at h
          · rename_i v hv
            split at h
            · rename_i tm1 hput
              exact .op hw (lift _ _ (light_doesR (lightX_sound hv) (by rw [hk]; rfl))) hput (sqp_sound n l _ l2 s2 h k)
            · cases h; exact k
          · cases h; exact k
        · rename_i hk
          split at h
          · cases h; exact k
          · rename_i d hd
            have obj : ∀ (v : V) (ob : Obj) (tm1 : TM), rah gl tm hh.nxt ro = some (v, ob) → putT fr.nt tm (some d) (.v v) = some tm1 → sqp gl fr.nt hp n l ⟨tm1, df, u, hh.new ob⟩ = (l2, s2) → SqR P gl fr x s' (r :: l) ⟨tm, df, u, hh⟩ := by
              intro v ob tm1 ha hput hs
              exact .op hw (lift _ _ (obj_doesR (rah_objR ha) (by rw [hk]; rfl))) (by rw [hd]; exact hput) (sqp_sound n l _ l2 s2 hs k)
            split at h
            · split at h
              · rename_i v ob ha
                split at h
                · rename_i tm1 hput; exact obj v ob tm1 ha hput h
                · cases h; exact k
              · cases h; exact k
            · split at h
              · rename_i v ha
                split at h
                · rename_i tm1 hput
                  exact .op hw (lift _ _ (list_doesR (raf_listR ha) (by rw [hk]; rfl))) (by rw [hd]; exact hput) (sqp_sound n l _ l2 s2 h k)
                · cases h; exact k
              · split at h
                · rename_i cs ha hlt
                  exact .loc hw (by rw [hro]; exact ral_locR ha) hd hlt (SW.refl _) (sqp_sound n l _ l2 s2 h k)
                · split at h
                  · rename_i v ob ha
                    split at h
                    · rename_i tm1 hput; exact obj v ob tm1 ha hput h
                    · cases h; exact k
                  · cases h; exact k
        · rename_i hk
          split at h
          · rename_i h' ha
            split at h
            · rename_i tm1 hput
              exact .op hw (lift _ _ (fun o ho => ⟨ras_does ho ha, nd_of ho (by rw [hk]; rfl)⟩)) hput (sqp_sound n l _ l2 s2 h k)
            · cases h; exact k
          · cases h; exact k
        · split at h
          · rename_i h' ha
            split at h
            · rename_i tm1 hput
              refine .op hw (lift _ _ (fun o ho => ⟨rac_does ho ha, del_nd ho ?_⟩)) hput (sqp_sound n l _ l2 s2 h k)
              revert ha
              cases ro <;> intro ha <;> first | rfl | (simp [rac] at ha)
            · cases h; exact k
          · cases h; exact k

/-- the same where the order is drawn. -/
def php (gl : List Nat) (nt : Nat) (hp : List Nat) : Nat → List RI → H → TM → List ER → List RI × H × TM × List ER
  | 0, l, h, tm, es => (l, h, tm, es)
  | _, [], h, tm, es => ([], h, tm, es)
  | n + 1, r :: l, h, tm, es => match wantR r.gd (tsub tm r.rd) with
    | none => (r :: l, h, tm, es)
    | some false => match putT nt tm r.dst (.v undefV) with
      | some tm => php gl nt hp n l h tm es
      | none => (r :: l, h, tm, es)
    | some true => match r.ro with
      | none => (r :: l, h, tm, es)
      | some ro => match kindRO ro with
        | 0 => match lightX gl (tsub tm r.rd) h ro with
          | some v => match putT nt tm r.dst v with
            | some tm' => match pureRO ro with
              | true => php gl nt hp n l h tm' es
              | false => php gl nt hp n l h tm' (⟨r.i, r.ro, tsub tm r.rd, v, h⟩ :: es)
            | none => (r :: l, h, tm, es)
          | none => (r :: l, h, tm, es)
        | 1 => match allocX gl (tsub tm r.rd) hp r.dst ro with
          | some v => match putT nt tm r.dst (.v v) with
            | some tm => php gl nt hp n l h tm es
            | none => (r :: l, h, tm, es)
          | none => match rah gl (tsub tm r.rd) h.nxt ro with
            | some (v, ob) => match putT nt tm r.dst (.v v) with
              | some tm => php gl nt hp n l (h.new ob) tm es
              | none => (r :: l, h, tm, es)
            | none => (r :: l, h, tm, es)
        | _ => (r :: l, h, tm, es)

theorem php_sound {hp : List Nat} {h3 : H} {tm3 : TM} {es3 : List ER} : ∀ (n : Nat) (l : List RI) (h : H) (tm : TM) (es : List ER) (l2 : List RI) (h2 : H) (tm2 : TM) (es2 : List ER), php gl nt hp n l h tm es = (l2, h2, tm2, es2) → PhR P gl nt l2 h2 tm2 es2 h3 tm3 es3 → PhR P gl nt l h tm es h3 tm3 es3
  | 0, l, h, tm, es, l2, h2, tm2, es2, e, k => by simp only [php] at e; cases e; exact k
  | n + 1, [], h, tm, es, l2, h2, tm2, es2, e, k => by simp only [php] at e; cases e; exact k
  | n + 1, r :: l, h, tm, es, l2, h2, tm2, es2, e, k => by
    simp only [php] at e
    split at e
    · cases e; exact k
    · rename_i hw
      split at e
      · rename_i tm1 hput; exact .skip hw hput (php_sound n l _ _ _ l2 h2 tm2 es2 e k)
      · cases e; exact k
    · rename_i hw
      split at e
      · cases e; exact k
      · rename_i ro hro
        split at e
        · rename_i hk
          split at e
          · rename_i v hv
            split at e
            · rename_i tm1 hput
              split at e
              · rename_i hpu
                exact .pure hw (fun h' => by rw [hro]; exact pure_sound hpu (lightX_eq hv).1 h') hput (php_sound n l _ _ _ l2 h2 tm2 es2 e k)
              · exact .light hw (by rw [hro]; exact lightX_sound hv) hput (php_sound n l _ _ _ l2 h2 tm2 es2 e k)
            · cases e; exact k
          · cases e; exact k
        · rename_i hk
          split at e
          · rename_i v ha
            split at e
            · rename_i tm1 hput
              refine .list hw ?_ hput (php_sound n l _ _ _ l2 h2 tm2 es2 e k)
              rw [hro]
              unfold allocX at ha
              split at ha
              · split at ha
                · cases ha
                · exact raf_listR ha
              · cases ha
            · cases e; exact k
          · split at e
            · rename_i v ob ha
              split at e
              · rename_i tm1 hput
                exact .obj hw (by rw [hro]; exact rah_objR ha) hput (php_sound n l _ _ _ l2 h2 tm2 es2 e k)
              · cases e; exact k
            · cases e; exact k
        · cases e; exact k
end

/-! ### regions, piece by piece -/
/-- the rest of a region in the order of the text. -/
def WQ (P : Program) (gl : List Nat) (fr : Fr) (l : List RI) (s : S) (QN : S → Prop) (QX : X → S → Prop) : Prop := ∃ x s', SqR P gl fr x s' l s ∧ Post QN QX x s'

/-- the rest of a region whose order is drawn: operations, then heavy ones. -/
def DW (P : Program) (gl : List Nat) (fr : Fr) (ds : List Nat) (l : List RI) (anc : Nat) (hs : List (RI × List RI)) (s : S) (es : List ER) (QN : S → Prop) (QX : X → S → Prop) : Prop :=
  ∃ h1 tm1 es1 x s', PhR P gl fr.nt l s.h s.tm es h1 tm1 es1 ∧ PendR P gl fr.nt h1 anc es1 ∧ DrR P gl fr ds x s' hs { s with tm := tm1, h := h1 } es1 ∧ Post QN QX x s'

section
variable {P : Program} {gl : List Nat} {fr : Fr} {s : S} {QN : S → Prop} {QX : X → S → Prop} {l : List RI} {r : RI} {ds : List Nat} {anc : Nat} {hs : List (RI × List RI)} {es : List ER}

theorem WR.reg {os : List RI} (h : WQ P gl fr os s QN QX) : WR P gl fr (.reg os) s QN QX := let ⟨_, _, h1, h2⟩ := h; WR.reg' h1 h2
theorem WQ.nil (h : QN s) : WQ P gl fr [] s QN QX := ⟨.norm, s, .nil rfl rfl, h⟩
theorem WQ.run (n : Nat) (hp : List Nat) {l2 : List RI} {s2 : S} (e : sqp gl fr.nt hp n l s = (l2, s2)) (h : WQ P gl fr l2 s2 QN QX) : WQ P gl fr l s QN QX := let ⟨x, s', h1, h2⟩ := h; ⟨x, s', sqp_sound n l s l2 s2 e h1, h2⟩
theorem WQ.op {v : TV} {s2 : S} {tm : TM} (hw : wantR r.gd s.tm = some true) (ho : OpRR P gl fr r.ro s (.val v s2)) (hp : putT fr.nt s2.tm r.dst v = some tm) (h : WQ P gl fr l { s2 with tm } QN QX) : WQ P gl fr (r :: l) s QN QX :=
  let ⟨x, s', h1, h2⟩ := h; ⟨x, s', .op hw ho hp h1, h2⟩
theorem WQ.light {v : TV} {ro : RO} {tm : TM} (hr : r.ro = some ro) (hk : Nat.beq (kindRO ro) 3 = false) (hw : wantR r.gd s.tm = some true) (ho : LightR P gl fr.nt s.tm s.h (some ro) v) (hp : putT fr.nt s.tm r.dst v = some tm) (h : WQ P gl fr l { s with tm } QN QX) : WQ P gl fr (r :: l) s QN QX :=
  WQ.op hw (by rw [hr]; exact does_opRR (light_doesR ho hk)) hp h
theorem WQ.does {v : TV} {h' : H} {tm : TM} (hw : wantR r.gd s.tm = some true) (ho : DoesR P gl fr.nt s.tm s.h r.ro v h') (hp : putT fr.nt s.tm r.dst v = some tm) (h : WQ P gl fr l { s with tm, h := h' } QN QX) : WQ P gl fr (r :: l) s QN QX :=
  WQ.op hw (does_opRR ho) hp h
theorem WQ.stop {ch : List PE} {s' : S} (hw : wantR r.gd s.tm = some true) (ho : OpRR P gl fr r.ro s (.pan ch s')) (h : QX (.panic ch) s') : WQ P gl fr (r :: l) s QN QX := ⟨.panic ch, s', .stop hw ho rfl, h⟩

/-- a call. -/
theorem WQ.call {x : RX} {as : List RX} {f : FuncId} {first cap vs ws : List V} {v : V} {h' : H} {tm : TM} {u' : Option AMode} (hr : r.ro = some (.call x as)) (hw : wantR r.gd s.tm = some true) (hx : rv gl s.tm x = some (.fn (.func f) first cap)) (hv : rvs gl s.tm as = some vs)
    (ha : (first ++ vs) ++ cap = ws) (sc : SCall P gl f ws none s.h (.ret v) u' h') (hp : putT fr.nt s.tm r.dst (.v v) = some tm) (h : WQ P gl fr l { s with tm, h := h' } QN QX) : WQ P gl fr (r :: l) s QN QX := by
  refine WQ.op hw (v := .v v) (s2 := { s with h := h' }) ?_ hp h
  rw [hr]
  intro o ho
  exact call_opR (r := .ret v) ho hx hv (by rw [ha]; exact Weak.refl _) sc

theorem WQ.callP {x : RX} {as : List RX} {f : FuncId} {first cap vs ws : List V} {ch : List PE} {h' : H} {u' : Option AMode} (hr : r.ro = some (.call x as)) (hw : wantR r.gd s.tm = some true) (hx : rv gl s.tm x = some (.fn (.func f) first cap)) (hv : rvs gl s.tm as = some vs)
    (ha : (first ++ vs) ++ cap = ws) (sc : SCall P gl f ws none s.h (.pan ch) u' h') (h : QX (.panic ch) { s with h := h' }) : WQ P gl fr (r :: l) s QN QX := by
  refine WQ.stop hw ?_ h
  rw [hr]
  intro o ho
  exact call_opR (r := .pan ch) ho hx hv (by rw [ha]; exact Weak.refl _) sc

theorem WR.dreg {ph : List RI} (hmix : P.follows .mixedOrders = true) (h : DW P gl fr ds ph 0 hs s [] QN QX) : WR P gl fr (.dreg ph hs ds) s QN QX := let ⟨_, _, _, _, _, h1, h2, h3, h4⟩ := h; WR.dreg' hmix h1 h2 h3 h4
theorem DW.run (n : Nat) (hp : List Nat) {l2 : List RI} {h2 : H} {tm2 : TM} {es2 : List ER} (e : php gl fr.nt hp n l s.h s.tm es = (l2, h2, tm2, es2)) (h : DW P gl fr ds l2 anc hs { s with tm := tm2, h := h2 } es2 QN QX) : DW P gl fr ds l anc hs s es QN QX :=
  let ⟨h1, tm1, es1, x, s', a, b, c, d⟩ := h; ⟨h1, tm1, es1, x, s', php_sound n l _ _ _ l2 h2 tm2 es2 e a, b, c, d⟩
theorem DW.pure {v : TV} {tm : TM} (hw : wantR r.gd (tsub s.tm r.rd) = some true) (ho : ∀ h, LightR P gl fr.nt (tsub s.tm r.rd) h r.ro v) (hp : putT fr.nt s.tm r.dst v = some tm) (h : DW P gl fr ds l anc hs { s with tm } es QN QX) : DW P gl fr ds (r :: l) anc hs s es QN QX :=
  let ⟨h1, tm1, es1, x, s', a, b, c, d⟩ := h; ⟨h1, tm1, es1, x, s', .pure hw ho hp a, b, c, d⟩
theorem DW.light {v : TV} {tm : TM} (hw : wantR r.gd (tsub s.tm r.rd) = some true) (ho : LightR P gl fr.nt (tsub s.tm r.rd) s.h r.ro v) (hp : putT fr.nt s.tm r.dst v = some tm)
    (h : DW P gl fr ds l anc hs { s with tm } (⟨r.i, r.ro, tsub s.tm r.rd, v, s.h⟩ :: es) QN QX) : DW P gl fr ds (r :: l) anc hs s es QN QX :=
  let ⟨h1, tm1, es1, x, s', a, b, c, d⟩ := h; ⟨h1, tm1, es1, x, s', .light hw ho hp a, b, c, d⟩
theorem DW.fin (pd : PendR P gl fr.nt s.h anc es) (h : QN s) : DW P gl fr ds [] anc [] s es QN QX := ⟨s.h, s.tm, es, .norm, s, .nil, pd, .fin rfl rfl, h⟩
theorem DW.op {l2 : List RI} {v : TV} {s2 : S} {tm1 : TM} (pd : PendR P gl fr.nt s.h anc es) (hw : wantR r.gd (tsub s.tm r.rd) = some true) (hop : OpRR P gl fr r.ro { s with tm := tsub s.tm r.rd } (.val v s2)) (hp : putT fr.nt s.tm r.dst v = some tm1)
    (h : DW P gl fr ds l2 r.anc hs { s2 with tm := tm1 } es QN QX) : DW P gl fr ds [] anc ((r, l2) :: hs) s es QN QX :=
  let ⟨h1, tm2, es1, x, s', a, b, c, d⟩ := h; ⟨s.h, s.tm, es, x, s', .nil, pd, .go hw hop hp a b c, d⟩
theorem DW.skip {l2 : List RI} {tm1 : TM} (pd : PendR P gl fr.nt s.h anc es) (hw : wantR r.gd (tsub s.tm r.rd) = some false) (hp : putT fr.nt s.tm r.dst (.v undefV) = some tm1)
    (h : DW P gl fr ds l2 r.anc hs { s with tm := tm1 } es QN QX) : DW P gl fr ds [] anc ((r, l2) :: hs) s es QN QX :=
  let ⟨h1, tm2, es1, x, s', a, b, c, d⟩ := h; ⟨s.h, s.tm, es, x, s', .nil, pd, .skip hw hp a b c, d⟩
theorem DW.does {l2 : List RI} {v : TV} {h' : H} {tm1 : TM} (pd : PendR P gl fr.nt s.h anc es) (hw : wantR r.gd (tsub s.tm r.rd) = some true) (hop : DoesR P gl fr.nt (tsub s.tm r.rd) s.h r.ro v h') (hp : putT fr.nt s.tm r.dst v = some tm1)
    (h : DW P gl fr ds l2 r.anc hs { s with tm := tm1, h := h' } es QN QX) : DW P gl fr ds [] anc ((r, l2) :: hs) s es QN QX :=
  DW.op pd hw (does_opRR (s := { s with tm := tsub s.tm r.rd }) hop) hp h
theorem DW.call {l2 : List RI} {x : RX} {as : List RX} {f : FuncId} {first cap vs ws : List V} {v : V} {h' : H} {tm1 : TM} {u' : Option AMode} (pd : PendR P gl fr.nt s.h anc es) (hr : r.ro = some (.call x as)) (hw : wantR r.gd (tsub s.tm r.rd) = some true)
    (hx : rv gl (tsub s.tm r.rd) x = some (.fn (.func f) first cap)) (hv : rvs gl (tsub s.tm r.rd) as = some vs) (ha : (first ++ vs) ++ cap = ws) (sc : SCall P gl f ws none s.h (.ret v) u' h') (hp : putT fr.nt s.tm r.dst (.v v) = some tm1)
    (h : DW P gl fr ds l2 r.anc hs { s with tm := tm1, h := h' } es QN QX) : DW P gl fr ds [] anc ((r, l2) :: hs) s es QN QX := by
  refine DW.op pd hw (v := .v v) (s2 := { s with tm := tsub s.tm r.rd, h := h' }) ?_ hp h
  rw [hr]
  intro o ho
  exact call_opR (r := .ret v) (s := { s with tm := tsub s.tm r.rd }) ho hx hv (by rw [ha]; exact Weak.refl _) sc
theorem DW.stop {l2 : List RI} {ch : List PE} {s2 : S} (pd : PendR P gl fr.nt s.h anc es) (hw : wantR r.gd (tsub s.tm r.rd) = some true) (hop : OpRR P gl fr r.ro { s with tm := tsub s.tm r.rd } (.pan ch s2))
    (h : QX (.panic ch) { s2 with tm := clearDs s.tm ds }) : DW P gl fr ds [] anc ((r, l2) :: hs) s es QN QX := ⟨s.h, s.tm, es, .panic ch, _, .nil, pd, .stop hw hop rfl rfl, h⟩
end

/-! ### functions -/
section
variable {P : Program} {gl : List Nat}
/-- a pure function, by its resolved body. -/
theorem SCall.pureR {f : FuncId} {fn : Func} {rc : RC} {args : List V} {h : H} {v : V} (hfn : P.funcs[f]? = some fn) (hb : fn.body.bind (resC P) = some rc) (hname : (fn.name == "runtime.NumGoroutine") = false)
    (hle : Nat.ble args.length fn.ntmps = true)
    (hw : (∃ E F w0 w args', Begun gl args h E F w0 w args') → WR P gl ⟨fn.ntmps, none, f⟩ rc ⟨argT 0 args, [], none, { h with lc := [] }⟩ (RetP P fn h v) (retX (RetP P fn h v))) : SCall P gl f args none h (.ret v) none h := by
  cases hbd : fn.body with
  | none => rw [hbd] at hb; cases hb
  | some body =>
    rw [hbd] at hb
    exact SCall.pure hfn hbd hname hle fun bg => hw bg body hb

theorem SCall.retR {f : FuncId} {fn : Func} {rc : RC} {args : List V} {h h' : H} {v : V} (hfn : P.funcs[f]? = some fn) (hb : fn.body.bind (resC P) = some rc) (hname : (fn.name == "runtime.NumGoroutine") = false)
    (hle : Nat.ble args.length fn.ntmps = true) (hlc : h'.lc = h.lc) (hn : h.nxt ≤ h'.nxt) (hob : (∃ E F w0 w args', Begun gl args h E F w0 w args') → ∀ b, h'.nxt ≤ b → h'.ob b = none)
    (hw : (∃ E F w0 w args', Begun gl args h E F w0 w args') → WR P gl ⟨fn.ntmps, none, f⟩ rc ⟨argT 0 args, [], none, { h with lc := [] }⟩ (Ret P fn args gl h v h') (retX (Ret P fn args gl h v h'))) : SCall P gl f args none h (.ret v) none h' := by
  cases hbd : fn.body with
  | none => rw [hbd] at hb; cases hb
  | some body =>
    rw [hbd] at hb
    exact SCall.known hlc ⟨fn, hfn, by rw [hbd]; rfl, hname⟩ fun bg => SCall.ret hfn hbd hname hle hlc hn (hob bg) (hw bg body hb)
end
end Go.VM
