/- The machine of values: code with all that hangs on types told. -/
import Derived.Test.YtdmpeinbbcjamaaVmLeave
set_option linter.unusedVariables false
set_option linter.unusedSimpArgs false
namespace Go.VM
open Go.RowKit

/-- an operation of a region: its number, what it hangs on, itself, the slots that it reads, its slot, its guard. -/
structure RI where
  i : Nat
  anc : Nat
  ro : Option RO
  rd : List Nat
  dst : Option Nat
  gd : Option (Nat × Bool)

inductive RC where
  | skip
  | seq (a b : RC)
  | cond (x : RX) (a b : RC)
  | block (id : Nat) (a : RC)
  | scope (a : RC)
  | loop (a : RC)
  | exit (id : Nat)
  | ret
  | reg (os : List RI)
  | dreg (ph : List RI) (hs : List (RI × List RI)) (ds : List Nat)

def gdOf (ops : Array Oper) (o : Oper) : Option (Option (Nat × Bool)) :=
  match o.guard with
  | none => some none
  | some (j, w) => match (ops[j]?).bind (·.dst) with
    | some d => some (some (d, w))
    | none => none

def wantR : Option (Nat × Bool) → TM → Option Bool
  | none, _ => some true
  | some (d, w), tm => match tg tm d with
    | some (.v (.bool b)) => some (b == w)
    | some _ => some false
    | none => none

theorem wantR_eq {ops : Array Oper} {o : Oper} {g : Option (Nat × Bool)} (h : gdOf ops o = some g) (tm : TM) : wantedA ops o tm = wantR g tm := by
  unfold gdOf at h
  unfold wantedA
  split at h
  · rename_i e; cases h; rw [e]; rfl
  · rename_i j w e
    rw [e]
    split at h
    · rename_i d hd; cases h; simp only [hd, wantR]; rfl
    · cases h

def resI (P : Program) (ops : Array Oper) (it : It) : Option RI :=
  match gdOf ops it.o with
  | some g => some ⟨it.i, it.anc, rop P it.o, tmpsOf ops it.o, it.o.dst, g⟩
  | none => none

def resIs (P : Program) (ops : Array Oper) : List It → Option (List RI)
  | [] => some []
  | it :: its => match resI P ops it, resIs P ops its with
    | some r, some rs => some (r :: rs)
    | _, _ => none

def resO (P : Program) (ops : Array Oper) (o : Oper) : Option RI :=
  match gdOf ops o with
  | some g => some ⟨0, 0, rop P o, [], o.dst, g⟩
  | none => none

def resOs (P : Program) (ops : Array Oper) : List Oper → Option (List RI)
  | [] => some []
  | o :: os => match resO P ops o, resOs P ops os with
    | some r, some rs => some (r :: rs)
    | _, _ => none

def resHs (P : Program) (ops : Array Oper) : List (It × List It) → Option (List (RI × List RI))
  | [] => some []
  | (it, l) :: hs => match resI P ops it, resIs P ops l, resHs P ops hs with
    | some r, some rs, some q => some ((r, rs) :: q)
    | _, _, _ => none

/-- the order in which a region is told. -/
def lightsOf (its : List It) (k : Nat) : List It := its.filter fun it => Nat.blt it.c 3 && Nat.beq it.lo k
def planH (its : List It) : List It → Nat → List (It × List It)
  | [], _ => []
  | h :: hs, k => (h, lightsOf its k) :: planH its hs (k + 1)

def simL : List It → Nat → Option Nat
  | [], m => some m
  | it :: l, m => match Nat.beq (it.anc &&& m) it.anc && !m.testBit it.i && Nat.blt it.c 3 with
    | true => simL l (m ||| 2 ^ it.i)
    | false => none

def simH (its : List It) : List (It × List It) → Nat → Option Nat
  | [], m => some m
  | (it, l) :: hs, m => match Nat.beq (it.anc &&& m) it.anc && !m.testBit it.i && (its.all fun x => Nat.ble 3 x.c || m.testBit x.i || x.anc.testBit it.i) with
    | true => match simL l (m ||| 2 ^ it.i) with
      | some m2 => simH its hs m2
      | none => none
    | false => none

def simOk (n : Nat) (its : List It) : Bool :=
  match simL (lightsOf its 0) 0 with
  | some m => match simH its (planH its (its.filter fun it => Nat.ble 3 it.c) 1) m with
    | some m2 => Nat.beq m2 (2 ^ n - 1)
    | none => false
  | none => false

def dstsOf : List It → List Nat
  | [] => []
  | it :: its => match it.o.dst with
    | some d => d :: dstsOf its
    | none => dstsOf its

def resD (P : Program) (ops : Array Oper) (its : List It) : Option RC :=
  match regOk P ops its && simOk ops.size its with
  | true => match resIs P ops (lightsOf its 0), resHs P ops (planH its (its.filter fun it => Nat.ble 3 it.c) 1) with
    | some a, some b => some (.dreg a b (dstsOf its))
    | _, _ => none
  | false => none

def resC (P : Program) : Code → Option RC
  | .skip => some .skip
  | .label _ => some .skip
  | .seq a b => match resC P a, resC P b with
    | some a, some b => some (.seq a b)
    | _, _ => none
  | .cond x a b => match rx x, resC P a, resC P b with
    | some x, some a, some b => some (.cond x a b)
    | _, _, _ => none
  | .block id a => (resC P a).map (.block id)
  | .scope a => (resC P a).map .scope
  | .loop a => (resC P a).map .loop
  | .exit id => some (.exit id)
  | .ret => some .ret
  | .region _ ops false => (resOs P ops ops.toList).map .reg
  | .region _ ops true => resD P ops (items P ops.toList)
  | _ => none

section
variable (P : Program) (gl : List Nat)
/-! ### what resolved operations do -/
def LightR (nt : Nat) (tm : TM) (h : H) (ro : Option RO) (tv : TV) : Prop := ∀ o, rop P o = ro → Light P gl nt tm h o tv
def AllocOR (nt : Nat) (tm : TM) (ro : Option RO) (b : Nat) (ob : Obj) (v : V) : Prop := (∀ o, rop P o = ro → AllocO P gl nt tm o b ob v) ∧ ∀ n, ob ≠ .tok n
def AllocFR (nt : Nat) (tm : TM) (ro : Option RO) (v : V) : Prop := ∀ o, rop P o = ro → AllocF P gl nt tm o v
def AllocLR (nt : Nat) (tm : TM) (ro : Option RO) (cs : List V) : Prop := ∀ o, rop P o = ro → AllocL P gl nt tm o cs ∧ ∀ c, o.op ≠ .defer c
def OpRR (fr : Fr) (ro : Option RO) (s : S) (r : OR) : Prop := ∀ o, rop P o = ro → OpR P gl fr o s r
def DoesR (nt : Nat) (tm : TM) (h : H) (ro : Option RO) (tv : TV) (h' : H) : Prop := ∀ o, rop P o = ro → Does P gl nt tm h o tv h' ∧ ∀ c, o.op ≠ .defer c

/-- a value that was looked up, and may be again. -/
structure ER where
  i : Nat
  ro : Option RO
  tmr : TM
  v : TV
  h : H

/-- operations of a region whose order is drawn, none of them heavy. -/
inductive PhR (nt : Nat) : List RI → H → TM → List ER → H → TM → List ER → Prop where
  | nil {h : H} {tm : TM} {es : List ER} : PhR nt [] h tm es h tm es
  | skip {r : RI} {l : List RI} {h h2 : H} {tm tm1 tm2 : TM} {es es2 : List ER} (hw : wantR r.gd (tsub tm r.rd) = some false) (hp : putT nt tm r.dst (.v undefV) = some tm1) (next : PhR nt l h tm1 es h2 tm2 es2) : PhR nt (r :: l) h tm es h2 tm2 es2
  | pure {r : RI} {l : List RI} {h h2 : H} {tm tm1 tm2 : TM} {es es2 : List ER} {v : TV} (hw : wantR r.gd (tsub tm r.rd) = some true) (hl : ∀ h, LightR P gl nt (tsub tm r.rd) h r.ro v) (hp : putT nt tm r.dst v = some tm1) (next : PhR nt l h tm1 es h2 tm2 es2) : PhR nt (r :: l) h tm es h2 tm2 es2
  | light {r : RI} {l : List RI} {h h2 : H} {tm tm1 tm2 : TM} {es es2 : List ER} {v : TV} (hw : wantR r.gd (tsub tm r.rd) = some true) (hl : LightR P gl nt (tsub tm r.rd) h r.ro v) (hp : putT nt tm r.dst v = some tm1)
      (next : PhR nt l h tm1 (⟨r.i, r.ro, tsub tm r.rd, v, h⟩ :: es) h2 tm2 es2) : PhR nt (r :: l) h tm es h2 tm2 es2
  | obj {r : RI} {l : List RI} {h h2 : H} {tm tm1 tm2 : TM} {es es2 : List ER} {v : V} {ob : Obj} (hw : wantR r.gd (tsub tm r.rd) = some true) (hl : AllocOR P gl nt (tsub tm r.rd) r.ro h.nxt ob v) (hp : putT nt tm r.dst (.v v) = some tm1)
      (next : PhR nt l (h.new ob) tm1 es h2 tm2 es2) : PhR nt (r :: l) h tm es h2 tm2 es2
  | list {r : RI} {l : List RI} {h h2 : H} {tm tm1 tm2 : TM} {es es2 : List ER} {v : V} (hw : wantR r.gd (tsub tm r.rd) = some true) (hl : AllocFR P gl nt (tsub tm r.rd) r.ro v) (hp : putT nt tm r.dst (.v v) = some tm1)
      (next : PhR nt l h tm1 es h2 tm2 es2) : PhR nt (r :: l) h tm es h2 tm2 es2

/-- what was looked up is still so. -/
inductive PendR (nt : Nat) (h : H) (anc : Nat) : List ER → Prop where
  | nil : PendR nt h anc []
  | pass {e : ER} {es : List ER} (hp : anc.testBit e.i = true) (next : PendR nt h anc es) : PendR nt h anc (e :: es)
  | same {e : ER} {es : List ER} (hp : e.h = h) (next : PendR nt h anc es) : PendR nt h anc (e :: es)
  | light {e : ER} {es : List ER} (hl : LightR P gl nt e.tmr h e.ro e.v) (next : PendR nt h anc es) : PendR nt h anc (e :: es)

def clearDs (tm : TM) : List Nat → TM
  | [] => tm
  | d :: ds => clearDs (tdel tm d) ds

inductive DrR (fr : Fr) (ds : List Nat) (x : X) (s' : S) : List (RI × List RI) → S → List ER → Prop where
  | fin {s : S} {es : List ER} (hx : x = .norm) (hs : s' = s) : DrR fr ds x s' [] s es
  | skip {r : RI} {l : List RI} {hs : List (RI × List RI)} {s : S} {h2 : H} {tm1 tm2 : TM} {es es2 : List ER} (hw : wantR r.gd (tsub s.tm r.rd) = some false) (hp : putT fr.nt s.tm r.dst (.v undefV) = some tm1)
      (ph : PhR P gl fr.nt l s.h tm1 es h2 tm2 es2) (pd : PendR P gl fr.nt h2 r.anc es2) (next : DrR fr ds x s' hs { s with tm := tm2, h := h2 } es2) : DrR fr ds x s' ((r, l) :: hs) s es
  | go {r : RI} {l : List RI} {hs : List (RI × List RI)} {s s2 : S} {v : TV} {h2 : H} {tm1 tm2 : TM} {es es2 : List ER} (hw : wantR r.gd (tsub s.tm r.rd) = some true) (hop : OpRR P gl fr r.ro { s with tm := tsub s.tm r.rd } (.val v s2))
      (hp : putT fr.nt s.tm r.dst v = some tm1) (ph : PhR P gl fr.nt l s2.h tm1 es h2 tm2 es2) (pd : PendR P gl fr.nt h2 r.anc es2) (next : DrR fr ds x s' hs { s2 with tm := tm2, h := h2 } es2) : DrR fr ds x s' ((r, l) :: hs) s es
  | stop {r : RI} {l : List RI} {hs : List (RI × List RI)} {s s2 : S} {ch : List PE} {es : List ER} (hw : wantR r.gd (tsub s.tm r.rd) = some true) (hop : OpRR P gl fr r.ro { s with tm := tsub s.tm r.rd } (.pan ch s2))
      (hx : x = .panic ch) (hse : s' = { s2 with tm := clearDs s.tm ds }) : DrR fr ds x s' ((r, l) :: hs) s es

/-- operations in the order of the text. -/
inductive SqR (fr : Fr) (x : X) (s' : S) : List RI → S → Prop where
  | nil {s : S} (hx : x = .norm) (hs : s' = s) : SqR fr x s' [] s
  | skip {r : RI} {l : List RI} {s : S} {tm : TM} (hw : wantR r.gd s.tm = some false) (hp : putT fr.nt s.tm r.dst (.v undefV) = some tm) (next : SqR fr x s' l { s with tm }) : SqR fr x s' (r :: l) s
  | op {r : RI} {l : List RI} {s s2 : S} {v : TV} {tm : TM} (hw : wantR r.gd s.tm = some true) (ho : OpRR P gl fr r.ro s (.val v s2)) (hp : putT fr.nt s2.tm r.dst v = some tm) (next : SqR fr x s' l { s2 with tm }) : SqR fr x s' (r :: l) s
  | loc {r : RI} {l : List RI} {s : S} {cs : List V} {d : Nat} (hw : wantR r.gd s.tm = some true) (ha : AllocLR P gl fr.nt s.tm r.ro cs) (hd : r.dst = some d) (hn : Nat.blt d fr.nt = true)
      {s2 : S} (hsw : SW gl fr { s with tm := (d, .l d 0) :: tpg s.tm d, h := { s.h with lc := (d, cs) :: s.h.lc } } s2) (next : SqR fr x s' l s2) : SqR fr x s' (r :: l) s
  | stop {r : RI} {l : List RI} {s : S} {ch : List PE} (hw : wantR r.gd s.tm = some true) (ho : OpRR P gl fr r.ro s (.pan ch s')) (hx : x = .panic ch) : SqR fr x s' (r :: l) s
end

section
variable {P : Program} {gl : List Nat}

theorem resO_spec {ops : Array Oper} {o : Oper} {r : RI} (h : resO P ops o = some r) : rop P o = r.ro ∧ o.dst = r.dst ∧ gdOf ops o = some r.gd := by
  unfold resO at h
  split at h
  · rename_i g hg; cases h; exact ⟨rfl, rfl, hg⟩
  · cases h

theorem resI_spec {ops : Array Oper} {it : It} {r : RI} (h : resI P ops it = some r) : r.i = it.i ∧ r.anc = it.anc ∧ rop P it.o = r.ro ∧ r.rd = tmpsOf ops it.o ∧ it.o.dst = r.dst ∧ gdOf ops it.o = some r.gd := by
  unfold resI at h
  split at h
  · rename_i g hg; cases h; exact ⟨rfl, rfl, rfl, rfl, rfl, hg⟩
  · cases h

theorem sqR_sound {fr : Fr} {ops : Array Oper} {x : X} {s' : S} : ∀ {os : List Oper} {rs : List RI} {s : S}, resOs P ops os = some rs → SqR P gl fr x s' rs s → Sq P gl fr ops x s' os s
  | [], rs, s, hr, h => by
    simp only [resOs] at hr; cases hr
    cases h with | nil hx hs => exact .nil hx hs
  | o :: os, rs, s, hr, h => by
    simp only [resOs] at hr
    split at hr
    · rename_i r rs' h1 h2
      cases hr
      obtain ⟨e1, e2, e3⟩ := resO_spec h1
      have ew := wantR_eq e3 s.tm
      cases h with
      | skip hw hp next => exact .skip (ew.trans hw) (by rw [e2]; exact hp) (sqR_sound h2 next)
      | op hw ho hp next => exact .op (ew.trans hw) (ho o e1) (by rw [e2]; exact hp) (sqR_sound h2 next)
      | loc hw ha hd hn hsw next => exact .loc (ew.trans hw) (ha o e1).1 (by rw [e2]; exact hd) (ha o e1).2 hn hsw (sqR_sound h2 next)
      | stop hw ho hx => exact .stop (ew.trans hw) (ho o e1) hx
    · cases hr

/-! ### regions whose order is drawn -/
/-- a state of a region, and what is kept of it. -/
structure DSim (P : Program) (gl : List Nat) (nt : Nat) (d : DS) (s : S) (m : Nat) (es : List ER) : Prop where
  s : d.s = s
  m : d.mask = m
  ev : ∀ e ∈ d.evs, e.k = 1 → (∀ h, Light P gl nt e.tmr h e.it.o e.v) ∨ ∃ r ∈ es, r.i = e.it.i ∧ rop P e.it.o = r.ro ∧ e.tmr = r.tmr ∧ e.v = r.v
  ok : ∀ r ∈ es, LightR P gl nt r.tmr r.h r.ro r.v

theorem simL_turn {it : It} {d : DS} {m : Nat} (hm : d.mask = m) (h : (Nat.beq (it.anc &&& m) it.anc && !m.testBit it.i) = true) : turnOk d it = true := by
  subst hm; exact h

theorem DS.add_eq {fr : Fr} {d : DS} {it : It} {tmr : TM} {k : Nat} {v : TV} {s : S} {tm : TM} (h : putT fr.nt d.s.tm it.o.dst v = some tm) :
    d.add fr it tmr k v s = some { s := { s with tm }, evs := ⟨it, tmr, k, v, d.s.h.nxt⟩ :: d.evs, mask := d.mask ||| 2 ^ it.i } := by
  unfold DS.add; rw [h]

theorem phR_sound {fr : Fr} {ops : Array Oper} {its : List It} : ∀ {l : List It} {rs : List RI} {d : DS} {s : S} {m m2 : Nat} {es es2 : List ER} {h2 : H} {tm2 : TM}, (∀ it ∈ l, it ∈ its) → resIs P ops l = some rs → simL l m = some m2 →
    PhR P gl fr.nt rs s.h s.tm es h2 tm2 es2 → DSim P gl fr.nt d s m es → ∃ d', Ph P gl fr ops its d d' ∧ DSim P gl fr.nt d' { s with tm := tm2, h := h2 } m2 es2
  | [], rs, d, s, m, m2, es, es2, h2, tm2, hl, hr, hs, hp, hd => by
    simp only [resIs] at hr; cases hr
    simp only [simL] at hs; cases hs
    cases hp with | nil => exact ⟨d, .nil d, hd⟩
  | it :: l, rs, d, s, m, m2, es, es2, h2, tm2, hl, hr, hs, hp, hd => by
    simp only [resIs] at hr
    split at hr
    · rename_i r rs' h1 hrs
      cases hr
      obtain ⟨e0, e00, e1, e4, e2, e3⟩ := resI_spec h1
      simp only [simL] at hs
      split at hs
      · rename_i hq
        simp only [Bool.and_eq_true] at hq
        obtain ⟨⟨q1, q2⟩, hc⟩ := hq
        have hit := hl it (List.mem_cons_self ..)
        have hl' := fun x hx => hl x (List.mem_cons_of_mem it hx)
        have ht : turnOk d it = true := simL_turn hd.m (by simp only [Bool.and_eq_true]; exact ⟨q1, q2⟩)
        have ew : wantedA ops it.o (tsub d.s.tm (tmpsOf ops it.o)) = wantR r.gd (tsub s.tm r.rd) := by rw [wantR_eq e3, hd.s, e4]
        have et : tsub d.s.tm (tmpsOf ops it.o) = tsub s.tm r.rd := by rw [hd.s, e4]
        have mkA : ∀ (k : Nat) (v : TV) (s1 : S) (tm1 : TM), putT fr.nt s.tm r.dst v = some tm1 → (k ≠ 1 ∨ ∀ h, Light P gl fr.nt (tsub s.tm r.rd) h it.o v) →
            ∃ d1, d.add fr it (tsub d.s.tm (tmpsOf ops it.o)) k v s1 = some d1 ∧ DSim P gl fr.nt d1 { s1 with tm := tm1 } (m ||| 2 ^ it.i) es := by
          intro k v s1 tm1 hput hk
          refine ⟨_, DS.add_eq (tm := tm1) (by rw [hd.s, e2]; exact hput), rfl, by rw [← hd.m], fun e he hk1 => ?_, hd.ok⟩
          cases he with
          | head =>
            rcases hk with hk | hk
            · exact absurd hk1 hk
            · left; rw [et]; exact hk
          | tail _ he => exact hd.ev e he hk1
        have mkB : ∀ (v : TV) (s1 : S) (tm1 : TM), putT fr.nt s.tm r.dst v = some tm1 → LightR P gl fr.nt (tsub s.tm r.rd) s.h r.ro v →
            ∃ d1, d.add fr it (tsub d.s.tm (tmpsOf ops it.o)) 1 v s1 = some d1 ∧ DSim P gl fr.nt d1 { s1 with tm := tm1 } (m ||| 2 ^ it.i) (⟨r.i, r.ro, tsub s.tm r.rd, v, s.h⟩ :: es) := by
          intro v s1 tm1 hput hk
          refine ⟨_, DS.add_eq (tm := tm1) (by rw [hd.s, e2]; exact hput), rfl, by rw [← hd.m], fun e he hk1 => ?_, fun q hq => ?_⟩
          · cases he with
            | head => exact .inr ⟨_, List.mem_cons_self .., e0, e1, et, rfl⟩
            | tail _ he =>
              rcases hd.ev e he hk1 with g | ⟨q, g1, g2⟩
              · exact .inl g
              · exact .inr ⟨q, List.mem_cons_of_mem _ g1, g2⟩
          · cases hq with
            | head => exact hk
            | tail _ hq => exact hd.ok q hq
        cases hp with
        | @skip _ _ _ _ _ tm1 _ _ _ hw hput next =>
          obtain ⟨d1, a1, a2⟩ := mkA 0 (.v undefV) s tm1 hput (.inl (by omega))
          obtain ⟨d', b1, b2⟩ := phR_sound (s := { s with tm := tm1 }) hl' hrs hs next a2
          exact ⟨d', .skip it hit hc ht (ew.trans hw) (by rw [hd.s] at a1 ⊢; exact a1) b1, b2⟩
        | @pure _ _ _ _ _ tm1 _ _ _ v hw hlt hput next =>
          obtain ⟨d1, a1, a2⟩ := mkA 1 v s tm1 hput (.inr fun h => hlt h it.o e1)
          obtain ⟨d', b1, b2⟩ := phR_sound (s := { s with tm := tm1 }) hl' hrs hs next a2
          exact ⟨d', .light it hit hc ht (ew.trans hw) (by rw [et]; exact hlt d.s.h it.o e1) (by rw [hd.s] at a1 ⊢; exact a1) b1, b2⟩
        | @light _ _ _ _ _ tm1 _ _ _ v hw hlt hput next =>
          obtain ⟨d1, a1, a2⟩ := mkB v s tm1 hput hlt
          obtain ⟨d', b1, b2⟩ := phR_sound (s := { s with tm := tm1 }) hl' hrs hs next a2
          exact ⟨d', .light it hit hc ht (ew.trans hw) (by rw [et, hd.s]; exact hlt it.o e1) (by rw [hd.s] at a1 ⊢; exact a1) b1, b2⟩
        | @obj _ _ _ _ _ tm1 _ _ _ v ob hw hlt hput next =>
          obtain ⟨d1, a1, a2⟩ := mkA 2 (.v v) { s with h := s.h.new ob } tm1 hput (.inl (by omega))
          obtain ⟨d', b1, b2⟩ := phR_sound (s := { s with tm := tm1, h := s.h.new ob }) hl' hrs hs next a2
          exact ⟨d', .obj it hit hc ht (ew.trans hw) ⟨by rw [et, hd.s]; exact hlt.1 it.o e1, hlt.2⟩ (by rw [hd.s] at a1 ⊢; exact a1) b1, b2⟩
        | @list _ _ _ _ _ tm1 _ _ _ v hw hlt hput next =>
          obtain ⟨d1, a1, a2⟩ := mkA 4 (.v v) s tm1 hput (.inl (by omega))
          obtain ⟨d', b1, b2⟩ := phR_sound (s := { s with tm := tm1 }) hl' hrs hs next a2
          exact ⟨d', .list it hit hc ht (ew.trans hw) (by rw [et]; exact hlt it.o e1) (by rw [hd.s] at a1 ⊢; exact a1) b1, b2⟩
      · cases hs
    · cases hr
end
end Go.VM
