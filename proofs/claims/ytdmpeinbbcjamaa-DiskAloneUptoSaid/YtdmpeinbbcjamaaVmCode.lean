/- The machine of values: pieces of code, told by what is so behind them. -/
import Derived.Test.YtdmpeinbbcjamaaVmDrawn3
set_option linter.unusedVariables false
set_option linter.unusedSimpArgs false
namespace Go.VM
open Go.RowKit

/-- leaving past an item that no exit asks for. -/
theorem Arr.pass {P : Program} {E : Env} {x : X} {m : Machine} {b : Frame} {it : Item} {k : List Item} {tmps : Array Value} {df : List Deferred} {cs : List Frame} {w : World}
    (hx : ∀ id, exitTo id (it :: k) = exitTo id k) (hn : x ≠ .norm) (a : Arr P E x m b (it :: k) tmps df cs w) : Arr P E x m b k tmps df cs w := by
  cases x with
  | norm => exact absurd rfl hn
  | exit id => obtain ⟨k', e, s⟩ := a; exact ⟨k', e.trans (hx id), s⟩
  | ret => exact a
  | panic ch => exact a

section
variable {P : Program} {gl : List Nat} {fr : Fr}

theorem SItem.of_step {it it2 : Item} {s : S} {x : X} {s' : S} (h : SItem P gl fr it2 s x s')
    (hs : ∀ (b : Frame) (tmps : Array Value) (df : List Deferred) (cs : List Frame) (k : List Item) (w : World), step P (lone (mkF b tmps (it :: k) df) cs w) = .next (lone (mkF b tmps (it2 :: k) df) cs w)) : SItem P gl fr it s x s' := by
  intro E F w0 w b tmps df cs k st
  obtain ⟨E', F', tmps', df', cs', w', a1, a0, a2, a3, a4, a5⟩ := h E F w0 w b tmps df cs k st
  exact ⟨E', F', tmps', df', cs', w', a1, a0, a2, a3, a4, Arr.of (.one (hs b tmps df cs k w)) a5⟩

theorem SItem.norm {it : Item} {s : S} (hs : ∀ (b : Frame) (tmps : Array Value) (df : List Deferred) (cs : List Frame) (k : List Item) (w : World), step P (lone (mkF b tmps (it :: k) df) cs w) = .next (lone (mkF b tmps k df) cs w)) :
    SItem P gl fr it s .norm s := by
  intro E F w0 w b tmps df cs k st
  exact ⟨E, F, tmps, df, cs, w, Ext.refl _ _, rfl, st, CS.refl st.uk, rfl, .one (hs b tmps df cs k w)⟩

/-- one piece behind another. -/
theorem SItem.seq {it it1 it2 : Item} {s s1 s' : S} {x : X} (h1 : SItem P gl fr it1 s .norm s1) (h2 : SItem P gl fr it2 s1 x s')
    (hs : ∀ (b : Frame) (tmps : Array Value) (df : List Deferred) (cs : List Frame) (k : List Item) (w : World), step P (lone (mkF b tmps (it :: k) df) cs w) = .next (lone (mkF b tmps (it1 :: it2 :: k) df) cs w)) : SItem P gl fr it s x s' := by
  intro E F w0 w b tmps df cs k st
  obtain ⟨E1, F1, t1, d1, c1, w1, a1, a0, a2, a3, a4, a5⟩ := h1 E F w0 w b tmps df cs (it2 :: k) st
  obtain ⟨E2, F2, t2, d2, c2, w2, b1, b0, b2, b3, b4, b5⟩ := h2 E1 F1 w0 w1 b t1 d1 c1 k a2
  exact ⟨E2, F2, t2, d2, c2, w2, a1.trans b1, b0.trans a0, b2, a3.trans b3 a4, b4.trans a4, Arr.of (Steps.head (hs b tmps df cs k w) a5) b5⟩

theorem SItem.stop {it it1 it2 : Item} {s s' : S} {x : X} (h1 : SItem P gl fr it1 s x s') (hx : x ≠ .norm) (he : ∀ id k, exitTo id (it2 :: k) = exitTo id k)
    (hs : ∀ (b : Frame) (tmps : Array Value) (df : List Deferred) (cs : List Frame) (k : List Item) (w : World), step P (lone (mkF b tmps (it :: k) df) cs w) = .next (lone (mkF b tmps (it1 :: it2 :: k) df) cs w)) : SItem P gl fr it s x s' := by
  intro E F w0 w b tmps df cs k st
  obtain ⟨E1, F1, t1, d1, c1, w1, a1, a0, a2, a3, a4, a5⟩ := h1 E F w0 w b tmps df cs (it2 :: k) st
  exact ⟨E1, F1, t1, d1, c1, w1, a1, a0, a2, a3, a4, Arr.of (.one (hs b tmps df cs k w)) (Arr.pass (fun id => he id k) hx a5)⟩

/-! ### regions in the order of the text -/
/-- no slot points to a variable any more. -/
def tpg (tm : TM) (d : Nat) : TM := tm.filter fun e => match tg tm e.1 with | some (.l x _) => !Nat.beq x d | _ => true

/-- what is so in one state is so in another. -/
def SW (gl : List Nat) (fr : Fr) (s1 s : S) : Prop :=
  s.u = s1.u ∧ ∀ (E : Env) (F : Fx) (w0 w : World) (b : Frame) (tmps : Array Value) (df : List Deferred) (cs : List Frame), StR gl E F fr s1 b tmps df cs w0 w →
    ∃ E' F', Ext E s1.h E' s.h ∧ F'.prot = F.prot ∧ StR gl E' F' fr s b tmps df cs w0 w

theorem SW.refl (s : S) : SW gl fr s s := ⟨rfl, fun E F w0 w b tmps df cs st => ⟨E, F, Ext.refl _ _, rfl, st⟩⟩
theorem SW.trans {s1 s2 s3 : S} (h : SW gl fr s1 s2) (k : SW gl fr s2 s3) : SW gl fr s1 s3 := by
  refine ⟨k.1.trans h.1, fun E F w0 w b tmps df cs st => ?_⟩
  obtain ⟨E1, F1, a1, a2, a3⟩ := h.2 E F w0 w b tmps df cs st
  obtain ⟨E2, F2, b1, b2, b3⟩ := k.2 E1 F1 w0 w b tmps df cs a3
  exact ⟨E2, F2, a1.trans b1, b2.trans a2, b3⟩

/-- operations one behind the other. -/
inductive Sq (P : Program) (gl : List Nat) (fr : Fr) (ops : Array Oper) (x : X) (s' : S) : List Oper → S → Prop where
  | nil {s : S} (hx : x = .norm) (hs : s' = s) : Sq P gl fr ops x s' [] s
  | skip {o : Oper} {os : List Oper} {s : S} {tm : TM} (hw : wantedA ops o s.tm = some false) (hp : putT fr.nt s.tm o.dst (.v undefV) = some tm) (next : Sq P gl fr ops x s' os { s with tm }) : Sq P gl fr ops x s' (o :: os) s
  | op {o : Oper} {os : List Oper} {s s2 : S} {v : TV} {tm : TM} (hw : wantedA ops o s.tm = some true) (ho : OpR P gl fr o s (.val v s2)) (hp : putT fr.nt s2.tm o.dst v = some tm) (next : Sq P gl fr ops x s' os { s2 with tm }) : Sq P gl fr ops x s' (o :: os) s
  | loc {o : Oper} {os : List Oper} {s : S} {cs : List V} {d : Nat} (hw : wantedA ops o s.tm = some true) (ha : AllocL P gl fr.nt s.tm o cs) (hd : o.dst = some d) (hc : (∀ c, o.op ≠ .defer c)) (hn : Nat.blt d fr.nt = true)
      {s2 : S} (hsw : SW gl fr { s with tm := (d, .l d 0) :: tpg s.tm d, h := { s.h with lc := (d, cs) :: s.h.lc } } s2) (next : Sq P gl fr ops x s' os s2) : Sq P gl fr ops x s' (o :: os) s
  | stop {o : Oper} {os : List Oper} {s : S} {ch : List PE} (hw : wantedA ops o s.tm = some true) (ho : OpR P gl fr o s (.pan ch s')) (hx : x = .panic ch) : Sq P gl fr ops x s' (o :: os) s

theorem sq_sound {ops : Array Oper} {x : X} {s' : S} : ∀ (l : List Nat) (os : List Oper), All₂ (IxR ops) l os → ∀ (s : S), Sq P gl fr ops x s' os s → SItem P gl fr (.inRegion ops l) s x s' := by
  intro l os hl
  induction hl with
  | nil =>
    intro s h
    cases h with
    | nil hx hs =>
      subst hx; subst hs
      intro E F w0 w b tmps df cs k st
      exact ⟨E, F, tmps, df, cs, w, Ext.refl _ _, rfl, st, CS.refl st.uk, rfl, .one st_end⟩
  | @cons i o l os hi ht ih =>
    intro s h
    intro E F w0 w b tmps df cs k st
    cases h with
    | @skip _ _ _ tm hw hp next =>
      have hw' := wanted_sound hw st.tr
      have st2 := st.put hp (.v _ _ (.tup [] #[] .nil))
      obtain ⟨E', F', tmps', df', cs', w', a1, a0, a2, a3, a4, a5⟩ := ih _ next E F w0 w b _ df cs k st2
      exact ⟨E', F', tmps', df', cs', w', a1, a0, a2, a3, a4, Arr.of (.one (st_op_skip hi hw')) a5⟩
    | @op _ _ _ s2 v tm hw ho hp next =>
      have hw' := wanted_sound hw st.tr
      obtain ⟨e, E', F', df', cs', w', v', a1, a0, a00, a2, a3, a4, a5, a6⟩ := ho E F w0 w b tmps df cs k ops i l st hi hw'
      have st3 := a2.put hp a5
      obtain ⟨E2, F2, tmps2, df2, cs2, w2, b1, b0, b2, b3, b4, b5⟩ := ih _ next E' F' w0 w' b _ df' cs' k st3
      exact ⟨E2, F2, tmps2, df2, cs2, w2, a1.trans b1, b0.trans a00, b2, CS.trans a3 b3 a4, b4.trans a4, Arr.of a6 b5⟩
    | @loc _ _ _ cl d hw ha hd hc hn s2 hsw next =>
      have hw' := wanted_sound hw st.tr
      obtain ⟨cob, p, h1, h2, h3, h4⟩ := ha E F.loc w tmps st.gl st.tr
      have m := st.mr.local (d := d) cob h2 h4
      have hle : Lle (fun k => if k = d then none else F.loc k) (fun k => if k = d then some p else F.loc k) := by
        intro k q hq
        simp only at hq ⊢
        split at hq
        · cases hq
        · rename_i e; rw [if_neg e]; exact hq
      have hv : TVR E (fun k => if k = d then some p else F.loc k) (.l d 0) (.pointer (some ⟨w.heap.size, 0, none⟩)) := by
        have := TVR.l (E := E) (L := fun k => if k = d then some p else F.loc k) d 0 p (by simp)
        rw [h2, h3] at this
        exact this
      have trp : TR E (fun k => if k = d then some p else F.loc k) fr.nt (tpg s.tm d) tmps := by
        refine ⟨st.tr.1, fun t u hu => ?_⟩
        obtain ⟨g1, g2⟩ := tg_filter hu (fun _ _ => rfl)
        obtain ⟨u', g3, g4⟩ := st.tr.2 t u g1
        rw [show tg s.tm (t, u).1 = some u from g1] at g2
        refine ⟨u', g3, ?_⟩
        cases g4 with
        | v x _ hx => exact .v _ _ hx
        | e cs blk off hfz => exact .e _ _ _ hfz
        | l d' o' q hq =>
          refine .l _ _ _ ?_
          have hne : d' ≠ d := by
            rintro rfl
            simp [Nat.beq_refl] at g2
          show (if d' = d then some p else F.loc d') = some q
          rw [if_neg hne]; exact hq
      have st3 : StR gl E { F with loc := fun k => if k = d then some p else F.loc k, own := updO F.own w.heap.size (.lc d) } fr { s with tm := (d, .l d 0) :: tpg s.tm d, h := { s.h with lc := (d, cl) :: s.h.lc } } b (putA tmps o.dst (.pointer (some ⟨w.heap.size, 0, none⟩))) df cs w0 { w with heap := w.heap.push cob } := by
        refine ⟨m, put_TR trp ?_ hv, st.dr, st.uk, st.fr, st.gl⟩
        rw [hd]; simp only [putT, hn]
      obtain ⟨E1, F1, y1, y2, st4⟩ := hsw.2 _ _ _ _ _ _ _ _ st3
      obtain ⟨E2, F2, tmps2, df2, cs2, w2, b1, b0, b2, b3, b4, b5⟩ := ih _ next E1 F1 w0 _ b _ df cs k st4
      have x1 : Ext E s.h E ({ s.h with lc := (d, cl) :: s.h.lc } : H) := ⟨Env.le_refl E, fun _ _ => rfl, Nat.le_refl _, fun _ _ _ _ h _ => h⟩
      have hu : s2.u = s.u := hsw.1
      exact ⟨E2, F2, tmps2, df2, cs2, w2, (x1.trans y1).trans b1, b0.trans y2, b2, by rw [← hu]; exact b3, by rw [← hu]; exact b4, Arr.of (.one (st_val hi hw' (.inr hc) h1)) b5⟩
    | @stop _ _ _ ch hw ho hx =>
      subst hx
      have hw' := wanted_sound hw st.tr
      obtain ⟨e, E', F', df', cs', w', todo, ch', a1, a0, a00, a2, a3, a4, a5, a6⟩ := ho E F w0 w b tmps df cs k ops i l st hi hw'
      exact ⟨E', F', tmps, df', cs', w', a1, a00, a2, a3, a4, todo, ch', a5, a6⟩

theorem region_sound {id : Nat} {ops : Array Oper} {os : List Oper} {s : S} {x : X} {s' : S} (ho : ops.toList = os) (h : Sq P gl fr ops x s' os s) : SItem P gl fr (.code (.region id ops false)) s x s' := by
  subst ho
  exact SItem.of_step (sq_sound _ _ (ix_range ops) s h) fun _ _ _ _ _ _ => st_region

/-! ### what is so behind a piece of code -/
/-- it comes to its end, and `QN` holds; or it is left otherwise, and `QX` holds. -/
def WI (P : Program) (gl : List Nat) (fr : Fr) (it : Item) (s : S) (QN : S → Prop) (QX : X → S → Prop) : Prop :=
  (∃ s', SItem P gl fr it s .norm s' ∧ QN s') ∨ ∃ x s', x ≠ .norm ∧ SItem P gl fr it s x s' ∧ QX x s'

abbrev WC (P : Program) (gl : List Nat) (fr : Fr) (c : Code) (s : S) (QN : S → Prop) (QX : X → S → Prop) : Prop := WI P gl fr (.code c) s QN QX

variable {s : S} {QN : S → Prop} {QX : X → S → Prop}

theorem WI.mono {it : Item} {QN' : S → Prop} {QX' : X → S → Prop} (h : WI P gl fr it s QN QX) (h1 : ∀ s', QN s' → QN' s') (h2 : ∀ x s', QX x s' → QX' x s') : WI P gl fr it s QN' QX' := by
  rcases h with ⟨s', a, b⟩ | ⟨x, s', a, b, c⟩
  · exact .inl ⟨s', a, h1 _ b⟩
  · exact .inr ⟨x, s', a, b, h2 _ _ c⟩

theorem WC.skip (h : QN s) : WC P gl fr .skip s QN QX := .inl ⟨s, SItem.norm fun _ _ _ _ _ _ => st_skip, h⟩
theorem WC.label {l : Nat} (h : QN s) : WC P gl fr (.label l) s QN QX := .inl ⟨s, SItem.norm fun _ _ _ _ _ _ => st_label, h⟩

theorem WC.seq {a d : Code} (h : WC P gl fr a s (fun s1 => WC P gl fr d s1 QN QX) QX) : WC P gl fr (.seq a d) s QN QX := by
  rcases h with ⟨s1, h1, h2⟩ | ⟨x, s1, hx, h1, h2⟩
  · rcases h2 with ⟨s2, a1, a2⟩ | ⟨x, s2, hx, a1, a2⟩
    · exact .inl ⟨s2, SItem.seq h1 a1 fun _ _ _ _ _ _ => st_seq, a2⟩
    · exact .inr ⟨x, s2, hx, SItem.seq h1 a1 fun _ _ _ _ _ _ => st_seq, a2⟩
  · exact .inr ⟨x, s1, hx, SItem.stop (it2 := .code d) h1 hx (fun id k => rfl) fun _ _ _ _ _ _ => st_seq, h2⟩

/-- a loop, at its head. -/
def WL (P : Program) (gl : List Nat) (fr : Fr) (c : Code) (s : S) (QN : S → Prop) (QX : X → S → Prop) : Prop := WC P gl fr c s (fun s1 => WI P gl fr (.inLoop c) s1 QN QX) QX

theorem WL.item {c : Code} {it : Item} (hst : ∀ (b : Frame) (tmps : Array Value) (df : List Deferred) (cs : List Frame) (k : List Item) (w : World), step P (lone (mkF b tmps (it :: k) df) cs w) = .next (lone (mkF b tmps (.code c :: .inLoop c :: k) df) cs w))
    (h : WL P gl fr c s QN QX) : WI P gl fr it s QN QX := by
  rcases h with ⟨s1, h1, h2⟩ | ⟨x, s1, hx, h1, h2⟩
  · rcases h2 with ⟨s2, a1, a2⟩ | ⟨x, s2, hx, a1, a2⟩
    · exact .inl ⟨s2, SItem.seq h1 a1 hst, a2⟩
    · exact .inr ⟨x, s2, hx, SItem.seq h1 a1 hst, a2⟩
  · exact .inr ⟨x, s1, hx, SItem.stop (it2 := .inLoop c) h1 hx (fun id k => rfl) hst, h2⟩

theorem WC.loop {c : Code} (h : WL P gl fr c s QN QX) : WC P gl fr (.loop c) s QN QX := WL.item (fun _ _ _ _ _ _ => st_loop) h
theorem WL.again {c : Code} (h : WL P gl fr c s QN QX) : WI P gl fr (.inLoop c) s QN QX := WL.item (fun _ _ _ _ _ _ => st_inLoop) h

theorem WC.cond {y : Operand} {a d : Code} {ro : RX} {t : Bool} (hr : rx y = some ro) (hv : rv gl s.tm ro = some (.bool t)) (h1 : t = true → WC P gl fr a s QN QX) (h2 : t = false → WC P gl fr d s QN QX) : WC P gl fr (.cond y a d) s QN QX := by
  have key : ∀ (q : Bool) (c : Code), t = q → (match q with | true => a | false => d) = c → WC P gl fr c s QN QX → WC P gl fr (.cond y a d) s QN QX := by
    intro q c ht hc hw
    subst ht
    have up : ∀ x s', SItem P gl fr (.code c) s x s' → SItem P gl fr (.code (.cond y a d)) s x s' := by
      intro x s' hi E F w0 w b tmps df cs k st
      have hr' := rv_sound st.gl st.tr hr hv
      have hb : evT tmps y = .bool t := by cases hq : evT tmps y <;> rw [hq] at hr' <;> cases hr'; rfl
      obtain ⟨E', F', t', d', c', w', a1, a0, a2, a3, a4, a5⟩ := hi E F w0 w b tmps df cs k st
      refine ⟨E', F', t', d', c', w', a1, a0, a2, a3, a4, Arr.of (.one (st_cond hb)) ?_⟩
      subst hc
      cases t <;> exact a5
    rcases hw with ⟨s1, q1, q2⟩ | ⟨x, s1, hx, q1, q2⟩
    · exact .inl ⟨s1, up _ _ q1, q2⟩
    · exact .inr ⟨x, s1, hx, up _ _ q1, q2⟩
  cases ht : t with
  | true => exact key true a ht rfl (h1 ht)
  | false => exact key false d ht rfl (h2 ht)

/-- what is so behind a block: it may be left by its own exit. -/
def blkX (id : Nat) (QN : S → Prop) (QX : X → S → Prop) : X → S → Prop
  | .exit i, s => match Nat.beq i id with
    | true => QN s
    | false => QX (.exit i) s
  | x, s => QX x s

theorem WC.block {id : Nat} {d : Code} (h : WC P gl fr d s QN (blkX id QN QX)) : WC P gl fr (.block id d) s QN QX := by
  have go : ∀ y s2, SItem P gl fr (.code d) s y s2 → ∀ (E : Env) (F : Fx) (w0 w : World) (b : Frame) (tmps : Array Value) (df : List Deferred) (cs : List Frame) (k : List Item), StR gl E F fr s b tmps df cs w0 w →
      ∃ E' F' tmps' df' cs' w', Ext E s.h E' s2.h ∧ F'.prot = F.prot ∧ StR gl E' F' fr s2 b tmps' df' cs' w0 w' ∧ CS s.u cs cs' ∧ s2.u.isSome = s.u.isSome ∧ Arr P E' y (lone (mkF b tmps (.code (.block id d) :: k) df) cs w) b (.inBlock id :: k) tmps' df' cs' w' := by
    intro y s2 hy E F w0 w b tmps df cs k st
    obtain ⟨E', F', t', d', c', w', a1, a0, a2, a3, a4, a5⟩ := hy E F w0 w b tmps df cs (.inBlock id :: k) st
    exact ⟨E', F', t', d', c', w', a1, a0, a2, a3, a4, Arr.of (.one st_block) a5⟩
  rcases h with ⟨s1, q1, q2⟩ | ⟨x, s1, hx, q1, q2⟩
  · refine .inl ⟨s1, ?_, q2⟩
    intro E F w0 w b tmps df cs k st
    obtain ⟨E', F', t', d', c', w', a1, a0, a2, a3, a4, a5⟩ := go _ _ q1 E F w0 w b tmps df cs k st
    exact ⟨E', F', t', d', c', w', a1, a0, a2, a3, a4, a5.trans (.one st_inBlock)⟩
  · cases x with
    | norm => exact absurd rfl hx
    | ret =>
      refine .inr ⟨.ret, s1, hx, ?_, q2⟩
      intro E F w0 w b tmps df cs k st
      exact go _ _ q1 E F w0 w b tmps df cs k st
    | panic ch =>
      refine .inr ⟨.panic ch, s1, hx, ?_, q2⟩
      intro E F w0 w b tmps df cs k st
      exact go _ _ q1 E F w0 w b tmps df cs k st
    | exit i =>
      simp only [blkX] at q2
      split at q2
      · rename_i hi
        have hi := Nat.eq_of_beq_eq_true hi
        subst hi
        refine .inl ⟨s1, ?_, q2⟩
        intro E F w0 w b tmps df cs k st
        obtain ⟨E', F', t', d', c', w', a1, a0, a2, a3, a4, k', e, a5⟩ := go _ _ q1 E F w0 w b tmps df cs k st
        rw [exitTo_inBlock, if_pos (by simp)] at e
        exact ⟨E', F', t', d', c', w', a1, a0, a2, a3, a4, a5.trans (.one (st_exit e))⟩
      · rename_i hi
        refine .inr ⟨.exit i, s1, hx, ?_, q2⟩
        intro E F w0 w b tmps df cs k st
        obtain ⟨E', F', t', d', c', w', a1, a0, a2, a3, a4, k', e, a5⟩ := go _ _ q1 E F w0 w b tmps df cs k st
        rw [exitTo_inBlock, if_neg (by intro q; simp at q; rw [q, Nat.beq_refl] at hi; cases hi)] at e
        exact ⟨E', F', t', d', c', w', a1, a0, a2, a3, a4, k', e, a5⟩

theorem WC.scope {d : Code} (h : WC P gl fr d s QN QX) : WC P gl fr (.scope d) s QN QX := by
  have go : ∀ x s', SItem P gl fr (.code d) s x s' → SItem P gl fr (.code (.scope d)) s x s' := by
    intro x s' hy E F w0 w b tmps df cs k st
    obtain ⟨E', F', t', d', c', w', a1, a0, a2, a3, a4, a5⟩ := hy E F w0 w b tmps df cs (.inScope d :: k) st
    refine ⟨E', F', t', d', c', w', a1, a0, a2, a3, a4, Arr.of (.one st_scope) ?_⟩
    cases x with
    | norm => exact a5.trans (.one st_inScope)
    | exit i => obtain ⟨k', e, s⟩ := a5; exact ⟨k', e, s⟩
    | ret => exact a5
    | panic ch => exact a5
  rcases h with ⟨s1, q1, q2⟩ | ⟨x, s1, hx, q1, q2⟩
  · exact .inl ⟨s1, go _ _ q1, q2⟩
  · exact .inr ⟨x, s1, hx, go _ _ q1, q2⟩

theorem WC.exit {id : Nat} (h : QX (.exit id) s) : WC P gl fr (.exit id) s QN QX := by
  refine .inr ⟨.exit id, s, by simp, ?_, h⟩
  intro E F w0 w b tmps df cs k st
  exact ⟨E, F, tmps, df, cs, w, Ext.refl _ _, rfl, st, CS.refl st.uk, rfl, k, rfl, Steps.refl _ _⟩

theorem WC.ret (h : QX .ret s) : WC P gl fr .ret s QN QX := by
  refine .inr ⟨.ret, s, by simp, ?_, h⟩
  intro E F w0 w b tmps df cs k st
  exact ⟨E, F, tmps, df, cs, w, Ext.refl _ _, rfl, st, CS.refl st.uk, rfl, k, Steps.refl _ _⟩

theorem WC.of {c : Code} {x : X} {s' : S} (h : SItem P gl fr (.code c) s x s') (hq : match x with | .norm => QN s' | x => QX x s') : WC P gl fr c s QN QX := by
  cases x with
  | norm => exact .inl ⟨s', h, hq⟩
  | exit i => exact .inr ⟨_, s', by simp, h, hq⟩
  | ret => exact .inr ⟨_, s', by simp, h, hq⟩
  | panic ch => exact .inr ⟨_, s', by simp, h, hq⟩

/-! ### less is known -/
theorem SItem.weak {it : Item} {s1 s s' : S} {x : X} (h : SW gl fr s1 s) (k : SItem P gl fr it s x s') : SItem P gl fr it s1 x s' := by
  intro E F w0 w b tmps df cs kk st
  obtain ⟨E1, F1, a1, a2, a3⟩ := h.2 E F w0 w b tmps df cs st
  obtain ⟨E2, F2, t2, d2, c2, w2, b1, b0, b2, b3, b4, b5⟩ := k E1 F1 w0 w b tmps df cs kk a3
  exact ⟨E2, F2, t2, d2, c2, w2, a1.trans b1, b0.trans a2, b2, by rw [← h.1]; exact b3, by rw [← h.1]; exact b4, b5⟩

theorem WI.weak {it : Item} {s1 : S} (h : SW gl fr s1 s) (k : WI P gl fr it s QN QX) : WI P gl fr it s1 QN QX := by
  rcases k with ⟨s', a, b⟩ | ⟨x, s', a, b, c⟩
  · exact .inl ⟨s', a.weak h, b⟩
  · exact .inr ⟨x, s', a, b.weak h, c⟩

theorem WL.weak {c : Code} {s1 : S} (h : SW gl fr s1 s) (k : WL P gl fr c s QN QX) : WL P gl fr c s1 QN QX := WI.weak h k
end

/-! ### ways to know less -/
/-- a value stands for all that another stands for. -/
def VLe (v v' : V) : Prop := ∀ (E : Env) (x : Value), AR E v x → AR E v' x
theorem VLe.refl (v : V) : VLe v v := fun _ _ h => h
theorem VLe.trans {a b c : V} (h : VLe a b) (k : VLe b c) : VLe a c := fun E x r => k E x (h E x r)
theorem VLe.clean1 (v : V) : VLe v v.clean1 := fun _ _ h => h.clean1
theorem VLe.clean (v : V) : VLe v v.clean := fun _ _ h => h.clean
theorem VLe.unk (es : List (List V)) (c : LC) : VLe (.lst es c) (.lst es .unk) := fun _ _ h => h.clean1

/-- every slot and variable that one state knows is known to the other. -/
def tsubB (tm tm1 : List Nat) : Bool := tm.all fun t => tm1.contains t

theorem tg_mem {tm : TM} {t : Nat} {v : TV} : tg tm t = some v → (t, v) ∈ tm := by
  induction tm with
  | nil => intro h; simp [tg] at h
  | cons e r ih =>
    intro h
    rcases tg_cons_some h with ⟨h1, h2⟩ | ⟨_, h2⟩
    · subst h1; subst h2; exact List.mem_cons_self ..
    · exact List.mem_cons_of_mem _ (ih h2)

theorem lg_mem {lc : LM} {d : Nat} {v : List V} : lg lc d = some v → (d, v) ∈ lc := by
  induction lc with
  | nil => intro h; simp [lg] at h
  | cons e r ih =>
    intro h
    obtain ⟨a, c⟩ := e
    rw [lg_cons] at h
    split at h
    · rename_i e; cases h; subst e; exact List.mem_cons_self ..
    · exact List.mem_cons_of_mem _ (ih h)

inductive CLe : List V → List V → Prop where
  | nil : CLe [] []
  | cons {a b : V} {l m : List V} (h : VLe a b) (hc : b.isCell = true) (t : CLe l m) : CLe (a :: l) (b :: m)

theorem CLe.get {l m : List V} (h : CLe l m) : m.length = l.length ∧ ∀ (i : Nat) (b : V), m[i]? = some b → ∃ a, l[i]? = some a ∧ VLe a b ∧ b.isCell = true := by
  induction h with
  | nil => exact ⟨rfl, fun i b h => by simp at h⟩
  | cons h hc t ih =>
    refine ⟨by simp [ih.1], fun i b hb => ?_⟩
    cases i with
    | zero => simp at hb; subst hb; exact ⟨_, rfl, h, hc⟩
    | succ i => simpa using ih.2 i b (by simpa using hb)

theorem CLe.refl {l : List V} (h : l.all V.isCell = true) : CLe l l := by
  induction l with
  | nil => exact .nil
  | cons a l ih => simp only [List.all_cons, Bool.and_eq_true] at h; exact .cons (.refl a) h.1 (ih h.2)

/-- slots of which less is known. -/
inductive TLe (d : LM) : TV → TV → Prop where
  | v {a b : V} (h : VLe a b) : TLe d (.v a) (.v b)
  | l (i o : Nat) (h : (lg d i).isSome = true) : TLe d (.l i o) (.l i o)
  | e (cs : List V) : TLe d (.e cs) (.e cs)

/-- the slots and variables are told anew. -/
theorem SW.tell {gl : List Nat} {fr : Fr} {s1 : S} {tm : TM} {lc : LM} (ht : ∀ e ∈ tm, ∃ u, tg s1.tm e.1 = some u ∧ TLe lc u e.2) (hl : ∀ e ∈ lc, ∃ cs, lg s1.h.lc e.1 = some cs ∧ (cs = e.2 ∨ CLe cs e.2)) :
    SW gl fr s1 { s1 with tm, h := { s1.h with lc } } := by
  refine ⟨rfl, fun E F w0 w b tmps df cs st => ?_⟩
  let L : Nat → Option Place := fun d => match lg lc d with | some _ => F.loc d | none => none
  have hL : Lle L F.loc := by
    intro d p hp
    simp only [L] at hp
    split at hp
    · exact hp
    · cases hp
  have m := st.mr.forgetLoc hL
  refine ⟨E, { F with loc := L }, ⟨Env.le_refl E, fun _ _ => rfl, Nat.le_refl _, fun _ _ _ _ h _ => h⟩, rfl, ⟨?_, ⟨st.tr.1, fun t v hv => ?_⟩, st.dr, st.uk, st.fr, st.gl⟩⟩
  · refine ⟨m.below, m.fresh, m.glo, m.glb, m.gbl, m.lto, m.obj, m.oOb, m.fz, m.oFz, m.tok, m.tokn, m.toko, fun d p hp => ?_, m.prot⟩
    obtain ⟨a1, a2, cs0, a3, a4⟩ := m.loc d p hp
    refine ⟨a1, a2, ?_⟩
    have hp' : L d = some p := hp
    simp only [L] at hp'
    split at hp'
    · rename_i cs1 hcs1
      refine ⟨cs1, hcs1, ?_⟩
      obtain ⟨cs2, g1, g2⟩ := hl _ (lg_mem hcs1)
      rw [a3] at g1
      cases g1
      rcases g2 with rfl | g2
      · exact a4
      · obtain ⟨c, el, lo, hi, b1, b2, b3, b4, b5⟩ := a4
        obtain ⟨q1, q2⟩ := g2.get
        refine ⟨c, el, lo, hi, b1, b2, b3, by have q1' : cs1.length = cs0.length := q1; omega, fun i v hv => ?_⟩
        obtain ⟨a, g3, g4, g5⟩ := q2 i v hv
        obtain ⟨_, v', g6, g7⟩ := b5 i a g3
        exact ⟨g5, v', g6, g4 E v' g7⟩
    · cases hp'
  · obtain ⟨u, g1, g2⟩ := ht _ (tg_mem hv)
    obtain ⟨u', g3, g4⟩ := st.tr.2 t u g1
    refine ⟨u', g3, ?_⟩
    cases g2 with
    | v h => cases g4 with | v _ _ h' => exact .v _ _ (h E _ h')
    | e cs => cases g4 with | e _ blk off h' => exact .e _ _ _ h'
    | l i o h =>
      cases g4 with
      | l _ _ p hp =>
        refine .l _ _ _ ?_
        show (match lg lc i with | some _ => F.loc i | none => none) = some p
        cases hq : lg lc i with
        | none => rw [hq] at h; cases h
        | some c => exact hp

/-- one object more, not there yet. -/
theorem SW.tok {gl : List Nat} {fr : Fr} {s1 : S} : SW gl fr s1 { s1 with h := s1.h.new (.tok 0) } := by
  refine ⟨rfl, fun E F w0 w b tmps df cs st => ?_⟩
  obtain ⟨m, x, _, _⟩ := st.mr.ghost (.tok 0) (fun n e => by cases e; rfl)
  exact ⟨E, F, x, rfl, st.mono x rfl m⟩

/-- the objects, told anew: the same ones. -/
theorem SW.obs {gl : List Nat} {fr : Fr} {s1 : S} {ob : Nat → Option Obj} (h : ∀ b, ob b = s1.h.ob b) : SW gl fr s1 { s1 with h := { s1.h with ob } } := by
  have e : ob = s1.h.ob := funext h
  subst e
  exact SW.refl _

/-- an empty list has any capacity token. -/
theorem VLe.tok0 (id : Nat) : VLe (.lst [] (.ex 0)) (.lst [] (.tk id)) := by
  intro E x r
  cases r with
  | lst0 c a cap h =>
    have : cap = 0 := h
    subst this
    exact .lst0 _ _ _ rfl
end Go.VM
