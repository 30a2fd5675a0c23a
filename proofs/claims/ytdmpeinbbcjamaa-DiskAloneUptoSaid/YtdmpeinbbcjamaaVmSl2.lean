/- The machine of values: listed states: regions whose order is drawn, calls, functions. -/
import Derived.Test.YtdmpeinbbcjamaaVmSl
set_option linter.unusedVariables false
set_option linter.unusedSimpArgs false
namespace Go.VM
open Go.RowKit

/-- operations of a region whose order is drawn, as far as they compute. -/
def phS (gl : List Nat) (nt : Nat) (hp : List Nat) : Nat → List RI → SL → List ER → Option (List RI × SL × List ER)
  | 0, l, s, es => some (l, s, es)
  | _, [], s, es => some ([], s, es)
  | n + 1, r :: l, ⟨tm, df, u, nx, ol, lc⟩, es => match wantR r.gd (tsub tm r.rd) with
    | none => none
    | some false => match putT nt tm r.dst (.v undefV) with
      | some tm => phS gl nt hp n l ⟨tm, df, u, nx, ol, lc⟩ es
      | none => none
    | some true => match r.ro with
      | none => none
      | some ro => match kindRO ro with
        | 0 => match lightC gl (tsub tm r.rd) ⟨nx, og ol, lc⟩ ro with
          | some v => match putT nt tm r.dst v with
            | some tm' => match pureRO ro with
              | true => phS gl nt hp n l ⟨tm', df, u, nx, ol, lc⟩ es
              | false => phS gl nt hp n l ⟨tm', df, u, nx, ol, lc⟩ (⟨r.i, some ro, tsub tm r.rd, v, ⟨nx, og ol, lc⟩⟩ :: es)
            | none => none
          | none => some (r :: l, ⟨tm, df, u, nx, ol, lc⟩, es)
        | 1 => match r.dst with
          | none => none
          | some d => match hp.contains d with
            | true => match rahC gl (tsub tm r.rd) nx ro with
              | some (v, ob) => match putT nt tm (some d) (.v v), osetO ol nx ob with
                | some tm, some ol => phS gl nt hp n l ⟨tm, df, u, nx + 1, ol, lc⟩ es
                | _, _ => none
              | none => some (r :: l, ⟨tm, df, u, nx, ol, lc⟩, es)
            | false => match rafC gl (tsub tm r.rd) ro with
              | some v => match putT nt tm (some d) (.v v) with
                | some tm => phS gl nt hp n l ⟨tm, df, u, nx, ol, lc⟩ es
                | none => none
              | none => match rahC gl (tsub tm r.rd) nx ro with
                | some (v, ob) => match putT nt tm (some d) (.v v), osetO ol nx ob with
                  | some tm, some ol => phS gl nt hp n l ⟨tm, df, u, nx + 1, ol, lc⟩ es
                  | _, _ => none
                | none => some (r :: l, ⟨tm, df, u, nx, ol, lc⟩, es)
        | _ => some (r :: l, ⟨tm, df, u, nx, ol, lc⟩, es)

section
variable {P : Program} {gl : List Nat} {fr : Fr} {QN : S → Prop} {QX : X → S → Prop} {ds : List Nat} {anc : Nat} {hs : List (RI × List RI)}

theorem DW.obj {s : S} {es : List ER} {r : RI} {l : List RI} {v : V} {ob : Obj} {tm : TM} (hw : wantR r.gd (tsub s.tm r.rd) = some true) (ho : AllocOR P gl fr.nt (tsub s.tm r.rd) r.ro s.h.nxt ob v) (hp : putT fr.nt s.tm r.dst (.v v) = some tm)
    (h : DW P gl fr ds l anc hs { s with tm, h := s.h.new ob } es QN QX) : DW P gl fr ds (r :: l) anc hs s es QN QX :=
  let ⟨h1, tm1, es1, x, s', a, b, c, d⟩ := h; ⟨h1, tm1, es1, x, s', .obj hw ho hp a, b, c, d⟩
theorem DW.list {s : S} {es : List ER} {r : RI} {l : List RI} {v : V} {tm : TM} (hw : wantR r.gd (tsub s.tm r.rd) = some true) (ho : AllocFR P gl fr.nt (tsub s.tm r.rd) r.ro v) (hp : putT fr.nt s.tm r.dst (.v v) = some tm)
    (h : DW P gl fr ds l anc hs { s with tm } es QN QX) : DW P gl fr ds (r :: l) anc hs s es QN QX :=
  let ⟨h1, tm1, es1, x, s', a, b, c, d⟩ := h; ⟨h1, tm1, es1, x, s', .list hw ho hp a, b, c, d⟩
theorem DW.skipL {s : S} {es : List ER} {r : RI} {l : List RI} {tm : TM} (hw : wantR r.gd (tsub s.tm r.rd) = some false) (hp : putT fr.nt s.tm r.dst (.v undefV) = some tm)
    (h : DW P gl fr ds l anc hs { s with tm } es QN QX) : DW P gl fr ds (r :: l) anc hs s es QN QX :=
  let ⟨h1, tm1, es1, x, s', a, b, c, d⟩ := h; ⟨h1, tm1, es1, x, s', .skip hw hp a, b, c, d⟩

theorem DW.runS (hp : List Nat) : ∀ (n : Nat) (l : List RI) (s : SL) (es : List ER) (l2 : List RI) (s2 : SL) (es2 : List ER), phS gl fr.nt hp n l s es = some (l2, s2, es2) → DW P gl fr ds l2 anc hs s2.toS es2 QN QX → DW P gl fr ds l anc hs s.toS es QN QX
  | 0, l, s, es, l2, s2, es2, h, k => by simp only [phS] at h; cases h; exact k
  | n + 1, [], s, es, l2, s2, es2, h, k => by simp only [phS] at h; cases h; exact k
  | n + 1, r :: l, ⟨tm, df, u, nx, ol, lc⟩, es, l2, s2, es2, h, k => by
    simp only [phS] at h
    split at h
    · cases h
    · rename_i hw
      split at h
      · rename_i tm1 hput
        exact DW.skipL (s := SL.toS ⟨tm, df, u, nx, ol, lc⟩) hw hput (DW.runS hp n l _ _ l2 s2 es2 h k)
      · cases h
    · rename_i hw
      split at h
      · cases h
      · rename_i ro hro
        split at h
        · split at h
          · rename_i v hv
            split at h
            · rename_i tm1 hput
              split at h
              · rename_i hpu
                exact DW.pure (s := SL.toS ⟨tm, df, u, nx, ol, lc⟩) hw (fun h' => by rw [hro]; exact pure_sound hpu (lightX_eq (lightC_eq hv)).1 h') hput (DW.runS hp n l _ _ l2 s2 es2 h k)
              · refine DW.light (s := SL.toS ⟨tm, df, u, nx, ol, lc⟩) hw (by rw [hro]; exact lightX_sound (lightC_eq hv)) hput ?_
                rw [hro]
                exact DW.runS hp n l _ _ l2 s2 es2 h k
            · cases h
          · cases h; exact k
        · split at h
          · cases h
          · rename_i d hd
            have obj : ∀ (v : V) (ob : Obj) (tm1 : TM) (ol1 : OL), rahC gl (tsub tm r.rd) nx ro = some (v, ob) → putT fr.nt tm (some d) (.v v) = some tm1 → osetO ol nx ob = some ol1 → phS gl fr.nt hp n l ⟨tm1, df, u, nx + 1, ol1, lc⟩ es = some (l2, s2, es2) →
                DW P gl fr ds (r :: l) anc hs (SL.toS ⟨tm, df, u, nx, ol, lc⟩) es QN QX := by
              intro v ob tm1 ol1 ha hput hol hs2
              have := DW.runS hp n l _ _ l2 s2 es2 hs2 k
              refine DW.obj (s := SL.toS ⟨tm, df, u, nx, ol, lc⟩) (ob := ob) (v := v) (tm := tm1) hw (by rw [hro]; exact rah_objR (rahC_eq ha)) (by rw [hd]; exact hput) ?_
              have e : (SL.toS ⟨tm, df, u, nx, ol, lc⟩).h.new ob = ⟨nx + 1, og (oset ol nx ob), lc⟩ := og_new ..
              rw [e, ← osetO_eq hol]; exact this
            split at h
            · split at h
              · rename_i v ob ha
                split at h
                · rename_i tm1 ol1 hput hol; exact obj v ob tm1 ol1 ha hput hol h
                · cases h
              · cases h; exact k
            · split at h
              · rename_i v ha
                split at h
                · rename_i tm1 hput
                  exact DW.list (s := SL.toS ⟨tm, df, u, nx, ol, lc⟩) (v := v) (tm := tm1) hw (by rw [hro]; exact raf_listR (rafC_eq ha)) (by rw [hd]; exact hput) (DW.runS hp n l _ _ l2 s2 es2 h k)
                · cases h
              · split at h
                · rename_i v ob ha
                  split at h
                  · rename_i tm1 ol1 hput hol; exact obj v ob tm1 ol1 ha hput hol h
                  · cases h
                · cases h; exact k
        · cases h; exact k

/-! ### steps from a listed state to another -/
section
variable {l : List RI} {r : RI} {tm tm1 : TM} {df : List AD} {u : Option AMode} {nx : Nat} {ol : OL} {lc : LM} {es : List ER}

theorem WQ.nilS {s : SL} (h : QN s.toS) : WQ P gl fr [] s.toS QN QX := WQ.nil h

theorem WQ.lightS {ro : RO} {v : TV} (hr : r.ro = some ro) (hk : Nat.beq (kindRO ro) 3 = false) (hw : wantR r.gd tm = some true) (ho : LightR P gl fr.nt tm ⟨nx, og ol, lc⟩ (some ro) v) (hp : putT fr.nt tm r.dst v = some tm1)
    (h : WQ P gl fr l (SL.toS ⟨tm1, df, u, nx, ol, lc⟩) QN QX) : WQ P gl fr (r :: l) (SL.toS ⟨tm, df, u, nx, ol, lc⟩) QN QX := WQ.light (s := SL.toS ⟨tm, df, u, nx, ol, lc⟩) hr hk hw ho hp h

theorem WQ.doesS {v : TV} {nx' : Nat} {ol' : OL} {lc' : LM} (hw : wantR r.gd tm = some true) (ho : DoesR P gl fr.nt tm ⟨nx, og ol, lc⟩ r.ro v ⟨nx', og ol', lc'⟩) (hp : putT fr.nt tm r.dst v = some tm1)
    (h : WQ P gl fr l (SL.toS ⟨tm1, df, u, nx', ol', lc'⟩) QN QX) : WQ P gl fr (r :: l) (SL.toS ⟨tm, df, u, nx, ol, lc⟩) QN QX := WQ.does (s := SL.toS ⟨tm, df, u, nx, ol, lc⟩) hw ho hp h

theorem WQ.callS {x : RX} {as : List RX} {f : FuncId} {first cap vs ws : List V} {v : V} {nx' : Nat} {ol' : OL} {u' : Option AMode} (hr : r.ro = some (.call x as)) (hw : wantR r.gd tm = some true) (hx : rv gl tm x = some (.fn (.func f) first cap)) (hv : rvs gl tm as = some vs)
    (ha : (first ++ vs) ++ cap = ws) (sc : SCall P gl f ws none ⟨nx, og ol, lc⟩ (.ret v) u' ⟨nx', og ol', lc⟩) (hp : putT fr.nt tm r.dst (.v v) = some tm1)
    (h : WQ P gl fr l (SL.toS ⟨tm1, df, u, nx', ol', lc⟩) QN QX) : WQ P gl fr (r :: l) (SL.toS ⟨tm, df, u, nx, ol, lc⟩) QN QX :=
  WQ.call (s := SL.toS ⟨tm, df, u, nx, ol, lc⟩) hr hw hx hv ha sc hp h

theorem DW.finS {s : SL} (pd : PendR P gl fr.nt ⟨s.nxt, og s.ol, s.lc⟩ anc es) (h : QN s.toS) : DW P gl fr ds [] anc [] s.toS es QN QX := DW.fin (s := s.toS) pd h

theorem DW.doesS {l2 : List RI} {v : TV} {nx' : Nat} {ol' : OL} {lc' : LM} (pd : PendR P gl fr.nt ⟨nx, og ol, lc⟩ anc es) (hw : wantR r.gd (tsub tm r.rd) = some true) (hop : DoesR P gl fr.nt (tsub tm r.rd) ⟨nx, og ol, lc⟩ r.ro v ⟨nx', og ol', lc'⟩) (hp : putT fr.nt tm r.dst v = some tm1)
    (h : DW P gl fr ds l2 r.anc hs (SL.toS ⟨tm1, df, u, nx', ol', lc'⟩) es QN QX) : DW P gl fr ds [] anc ((r, l2) :: hs) (SL.toS ⟨tm, df, u, nx, ol, lc⟩) es QN QX :=
  DW.does (s := SL.toS ⟨tm, df, u, nx, ol, lc⟩) pd hw hop hp h

/-- a store. -/
theorem DW.stS {l2 : List RI} {ol' : OL} {lc' : LM} {a x : RX} {n : Nat} (pd : PendR P gl fr.nt ⟨nx, og ol, lc⟩ anc es) (hr : r.ro = some (.st a x n)) (hw : wantR r.gd (tsub tm r.rd) = some true) (hop : rasC gl (tsub tm r.rd) ol lc (.st a x n) = some (ol', lc')) (hp : putT fr.nt tm r.dst (.v undefV) = some tm1)
    (h : DW P gl fr ds l2 r.anc hs (SL.toS ⟨tm1, df, u, nx, ol', lc'⟩) es QN QX) : DW P gl fr ds [] anc ((r, l2) :: hs) (SL.toS ⟨tm, df, u, nx, ol, lc⟩) es QN QX :=
  DW.doesS pd hw (by rw [hr]; exact DoesR.store hop rfl) hp h

theorem DW.callS {l2 : List RI} {x : RX} {as : List RX} {f : FuncId} {first cap vs ws : List V} {v : V} {nx' : Nat} {ol' : OL} {u' : Option AMode} (pd : PendR P gl fr.nt ⟨nx, og ol, lc⟩ anc es) (hr : r.ro = some (.call x as)) (hw : wantR r.gd (tsub tm r.rd) = some true)
    (hx : rv gl (tsub tm r.rd) x = some (.fn (.func f) first cap)) (hv : rvs gl (tsub tm r.rd) as = some vs) (ha : (first ++ vs) ++ cap = ws) (sc : SCall P gl f ws none ⟨nx, og ol, lc⟩ (.ret v) u' ⟨nx', og ol', lc⟩) (hp : putT fr.nt tm r.dst (.v v) = some tm1)
    (h : DW P gl fr ds l2 r.anc hs (SL.toS ⟨tm1, df, u, nx', ol', lc⟩) es QN QX) : DW P gl fr ds [] anc ((r, l2) :: hs) (SL.toS ⟨tm, df, u, nx, ol, lc⟩) es QN QX :=
  DW.call (s := SL.toS ⟨tm, df, u, nx, ol, lc⟩) pd hr hw hx hv ha sc hp h
end

/-- a guard is known, one way or the other. -/
theorem WQ.guard {l : List RI} {s : S} (d : Nat) {b : Bool} (hd : tg s.tm d = some (.v (.bool b))) (hT : b = true → WQ P gl fr l s QN QX) (hF : b = false → WQ P gl fr l s QN QX) : WQ P gl fr l s QN QX := by
  cases h : b
  · exact hF h
  · exact hT h
theorem DW.guard {l : List RI} {s : S} {es : List ER} (d : Nat) {b : Bool} (hd : tg s.tm d = some (.v (.bool b))) (hT : b = true → DW P gl fr ds l anc hs s es QN QX) (hF : b = false → DW P gl fr ds l anc hs s es QN QX) : DW P gl fr ds l anc hs s es QN QX := by
  cases h : b
  · exact hF h
  · exact hT h

/-! ### references, counted -/
mutual
theorem V.In.refLt {N : Nat} : ∀ {v : V}, v.In (· < N) → RefLt N v
  | .bool b, _ => .bool b
  | .int k n, _ => .int k n
  | .str s, _ => .str s
  | .nilp, _ => .nilp
  | .ptr b o, h => .ptr o h
  | .lst es c, h => .lst (Inss.refLt h.1) (fun id e => by have := h.2; rw [e] at this; exact this.1)
  | .sl b o n c, h => .sl h
  | .nilm, _ => .nilm
  | .map r, h => .map h
  | .fn (.func f) a c, h => .fn (Ins.refLt h.2.1) (Ins.refLt h.2.2)
  | .fn (.yield l) a c, h => fun E x r => by cases r with | yld _ p e => exact .yld l p (cut_ob e h.1)
  | .fn (.method _) _ _, _ => fun E x r => by cases r
  | .fn (.methodOf _ _) _ _, _ => fun E x r => by cases r
  | .fn (.via _ _ _ _) _ _, _ => fun E x r => by cases r
  | .nilf, _ => .nilf
  | .iface t v, h => .iface (V.In.refLt (v := v) h)
  | .nili, _ => .nili
  | .agg l, h => .agg (Ins.refLt h)
  | .tup l, h => .tup (Ins.refLt h)
theorem Ins.refLt {N : Nat} : ∀ {l : List V}, Ins (· < N) l → ∀ v ∈ l, RefLt N v
  | [], _, v, hv => by cases hv
  | a :: l, h, v, hv => by
    rcases List.mem_cons.1 hv with e | hv
    · rw [e]; exact V.In.refLt h.1
    · exact Ins.refLt h.2 v hv
theorem Inss.refLt {N : Nat} : ∀ {l : List (List V)}, Inss (· < N) l → ∀ e ∈ l, ∀ v ∈ e, RefLt N v
  | [], _, e, he => by cases he
  | a :: l, h, e, he => by
    rcases List.mem_cons.1 he with q | he
    · rw [q]; exact Ins.refLt h.1
    · exact Inss.refLt h.2 e he
end

theorem Obj.In.refLt {N : Nat} {o : Obj} (h : o.In (· < N)) : ORefLt N o := by
  intro E p w r
  cases o with
  | cells opn cs =>
    obtain ⟨c, el, lo, hi, a1, a2, a3, a4, a5⟩ := r
    refine ⟨c, el, lo, hi, a1, a2, a3, a4, fun i v hv => ?_⟩
    obtain ⟨b1, v', b2, b3⟩ := a5 i v hv
    exact ⟨b1, v', b2, V.In.refLt (Ins.get h hv) _ _ b3⟩
  | map es =>
    obtain ⟨ents, clock, a1, a2⟩ := r
    refine ⟨ents, clock, a1, ?_⟩
    have go : ∀ (es : List (V × V)) (l : List MapEntry), Ines (· < N) es → All₂ (fun (e : V × V) (m : MapEntry) => AR E e.1 m.key ∧ AR E e.2 m.val) es l → All₂ (fun (e : V × V) (m : MapEntry) => AR (E.cut N) e.1 m.key ∧ AR (E.cut N) e.2 m.val) es l := by
      intro es
      induction es with
      | nil => intro l _ r; cases r; exact .nil
      | cons e es ih =>
        intro l hi r
        obtain ⟨a, b⟩ := e
        cases r with
        | cons r t => exact .cons ⟨V.In.refLt hi.1.1 _ _ r.1, V.In.refLt hi.1.2 _ _ r.2⟩ (ih _ hi.2 t)
    exact go es _ h a2
  | loop l => exact h.elim
  | dfr c => exact h.elim
  | siter s pos => exact r
  | tok n => exact r

/-! ### functions over listed memory -/
/-- the objects of a list are all below a bound. -/
def olB (N : Nat) : OL → Bool
  | [] => true
  | (k, _) :: r => Nat.blt k N && olB N r

theorem olB_none {N : Nat} : ∀ {l : OL}, olB N l = true → ∀ b, N ≤ b → og l b = none
  | [], _, b, _ => rfl
  | (k, o) :: r, h, b, hb => by
    simp only [olB, Bool.and_eq_true, Nat.blt_eq] at h
    rw [og_cons, if_neg (by omega)]
    exact olB_none h.2 b hb

def olIn (D : Nat → Prop) : OL → Prop
  | [] => True
  | (_, o) :: r => o.In D ∧ olIn D r

theorem olIn_get {D : Nat → Prop} : ∀ {l : OL}, olIn D l → ∀ b o, og l b = some o → o.In D
  | [], _, b, o, h => by cases h
  | (k, x) :: r, hi, b, o, h => by
    rw [og_cons] at h
    split at h
    · cases h; exact hi.1
    · exact olIn_get hi.2 b o h

/-- the result of a body over listed memory: `ol'` holds all that may still be named. -/
def RetS (P : Program) (fn : Func) (v : V) (nx' : Nat) (ol' : OL) (s' : S) : Prop :=
  s'.df = [] ∧ s'.u = none ∧ (∃ vs, resV P s'.h s'.tm fn.results.toList = some vs ∧ VLe (retV vs) v) ∧ (∀ b, b < nx' → og ol' b = s'.h.ob b)

theorem SCall.listed {f : FuncId} {fn : Func} {rc : RC} {args : List V} {nx nx' : Nat} {ol ol' : OL} {v : V} (hfn : P.funcs[f]? = some fn) (hb : fn.body.bind (resC P) = some rc) (hname : (fn.name == "runtime.NumGoroutine") = false)
    (hle : Nat.ble args.length fn.ntmps = true) (hn : nx ≤ nx') (hol : olB nx' ol' = true) (hin : olIn (· < nx') ol') (hv : v.In (· < nx'))
    (hw : WR P gl ⟨fn.ntmps, none, f⟩ rc (SL.toS ⟨argT 0 args, [], none, nx, ol, []⟩) (RetS P fn v nx' ol') (retX (RetS P fn v nx' ol'))) :
    SCall P gl f args none ⟨nx, og ol, []⟩ (.ret v) none ⟨nx', og ol', []⟩ := by
  refine SCall.retR hfn hb hname hle rfl hn (fun _ => olB_none hol) fun _ => ?_
  have up : ∀ s', RetS P fn v nx' ol' s' → Ret P fn args gl ⟨nx, og ol, []⟩ v ⟨nx', og ol', []⟩ s' := by
    intro s' ⟨a, b, c, d⟩
    refine ⟨a, b, c, d, fun _ => ⟨fun k hk => .inr fun o ho => ?_, hv.refLt⟩⟩
    rw [← d k hk] at ho
    exact (olIn_get hin k o ho).refLt
  refine WR.mono hw up fun x s' hx => ?_
  cases x with
  | ret => exact up s' hx
  | _ => exact hx.elim
end

/-! ### the frame, for no object and for one -/
mutual
theorem V.ren_id {ρ : Nat → Nat} {D : Nat → Prop} (hρ : ∀ i, D i → ρ i = i) : ∀ {v : V}, v.In D → v.ren ρ = v
  | .bool b, _ => rfl
  | .int k n, _ => rfl
  | .str s, _ => rfl
  | .nilp, _ => rfl
  | .ptr b o, h => by simp only [V.ren]; rw [hρ b h]
  | .lst es c, h => by
    simp only [V.ren]
    rw [renss_id hρ h.1]
    congr 1
    cases c with
    | tk id => simp only [LC.ren]; rw [hρ id h.2.1]
    | _ => rfl
  | .sl b o n c, h => by simp only [V.ren]; rw [hρ b h]
  | .nilm, _ => rfl
  | .map r, h => by simp only [V.ren]; rw [hρ r h]
  | .fn f a c, h => by
    simp only [V.ren]
    rw [rens_id hρ h.2.1, rens_id hρ h.2.2]
    congr 1
    cases f with
    | yield l => simp only [fnRen]; rw [hρ l h.1]
    | _ => rfl
  | .nilf, _ => rfl
  | .iface t v, h => by simp only [V.ren]; rw [V.ren_id hρ (v := v) h]
  | .nili, _ => rfl
  | .agg l, h => by simp only [V.ren]; rw [rens_id hρ h]
  | .tup l, h => by simp only [V.ren]; rw [rens_id hρ h]
theorem rens_id {ρ : Nat → Nat} {D : Nat → Prop} (hρ : ∀ i, D i → ρ i = i) : ∀ {l : List V}, Ins D l → rens ρ l = l
  | [], _ => rfl
  | v :: l, h => by simp only [rens]; rw [V.ren_id hρ h.1, rens_id hρ h.2]
theorem renss_id {ρ : Nat → Nat} {D : Nat → Prop} (hρ : ∀ i, D i → ρ i = i) : ∀ {l : List (List V)}, Inss D l → renss ρ l = l
  | [], _ => rfl
  | v :: l, h => by simp only [renss]; rw [rens_id hρ h.1, renss_id hρ h.2]
end

mutual
theorem V.In.mono {D D' : Nat → Prop} (h : ∀ i, D i → D' i) : ∀ {v : V}, v.In D → v.In D'
  | .bool b, _ => trivial
  | .int k n, _ => trivial
  | .str s, _ => trivial
  | .nilp, _ => trivial
  | .ptr b o, k => h b k
  | .lst es c, k => ⟨Inss.mono h k.1, by
    cases c with
    | tk id => exact ⟨h id k.2.1, k.2.2⟩
    | _ => trivial⟩
  | .sl b o n c, k => h b k
  | .nilm, _ => trivial
  | .map r, k => h r k
  | .fn f a c, k => ⟨by cases f with | yield l => exact h l k.1 | _ => trivial, Ins.mono h k.2.1, Ins.mono h k.2.2⟩
  | .nilf, _ => trivial
  | .iface t v, k => V.In.mono (v := v) h k
  | .nili, _ => trivial
  | .agg l, k => Ins.mono (l := l) h k
  | .tup l, k => Ins.mono (l := l) h k
theorem Ins.mono {D D' : Nat → Prop} (h : ∀ i, D i → D' i) : ∀ {l : List V}, Ins D l → Ins D' l
  | [], _ => trivial
  | v :: l, k => ⟨V.In.mono h k.1, Ins.mono h k.2⟩
theorem Inss.mono {D D' : Nat → Prop} (h : ∀ i, D i → D' i) : ∀ {l : List (List V)}, Inss D l → Inss D' l
  | [], _ => trivial
  | v :: l, k => ⟨Ins.mono h k.1, Inss.mono h k.2⟩
end

/-- a pure function, over any memory. -/
theorem SCall.pure0 {P : Program} {gl : List Nat} {f : FuncId} {args : List V} {v : V} (hgl : gl.all (Nat.blt · glim) = true) (core : SCall P gl f args none ⟨glim, og [], []⟩ (.ret v) none ⟨glim, og [], []⟩) (ha : Ins (· < glim) args) (hv : v.In (· < glim)) (h : H) :
    SCall P gl f args none h (.ret v) none h := by
  refine SCall.known rfl core.fn fun bg => ?_
  obtain ⟨E, F, w0, w, args', bg⟩ := bg
  let ρ : Nat → Nat := fun i => if i < glim then i else h.nxt + (i - glim)
  have hρ : ∀ i, i < glim → ρ i = i := fun i hi => by simp only [ρ]; rw [if_pos hi]
  refine SCall.frame (ρ := ρ) hgl core (fun _ => ?_) (Ins.mono (fun i hi => .inl hi) ha) (hv.mono fun i hi => .inl hi) (fun i o hi => by cases hi) (rens_id hρ ha) (V.ren_id hρ hv) ?_
  · exact ⟨hρ, fun i h1 h2 => absurd h2 (Nat.not_lt.2 h1), (fun i hi => by simp only [ρ]; rw [if_neg (Nat.not_lt.2 hi)]), (fun i j _ _ hi => by cases hi), Nat.le_refl _, fun _ _ => rfl, (fun i o hi => by cases hi), (fun i o hi => by cases hi)⟩
  · have hob : (mrg ρ ⟨glim, og [], []⟩ h ⟨glim, og [], []⟩).ob = h.ob := by
      funext b
      simp only [mrg]
      split
      · rename_i i hi
        obtain ⟨h1, h2⟩ := inv_spec hi
        have h1 : glim ≤ i := by
          rcases h1 with h1 | h1
          · cases h1
          · exact h1
        have : b = h.nxt + (i - glim) := by rw [← h2]; simp only [ρ]; rw [if_neg (Nat.not_lt.2 h1)]
        rw [show (og [] i : Option Obj) = none from rfl]
        exact ((bg.mr.fresh b (by omega)).2.1).symm
      · rfl
    cases h with
    | mk nx ob lc => simp only [mrg, Nat.sub_self, Nat.add_zero] at hob ⊢; rw [hob]
end Go.VM
