/- The machine of values: listed states: appending, memory's forms, the frame for listed objects. -/
import Derived.Test.YtdmpeinbbcjamaaVmSl2
set_option linter.unusedVariables false
set_option linter.unusedSimpArgs false
namespace Go.VM
open Go.RowKit

/-- a memory, listed. -/
inductive HL : H → Nat → OL → LM → Prop where
  | base {nx : Nat} {ol : OL} {lc : LM} : HL ⟨nx, og ol, lc⟩ nx ol lc
  | put {h : H} {nx b : Nat} {ol ol' : OL} {lc : LM} {o : Obj} (k : HL h nx ol lc) (e : osetO ol b o = some ol') : HL (h.put b o) nx ol' lc
  | new {h : H} {nx : Nat} {ol ol' : OL} {lc : LM} {o : Obj} (k : HL h nx ol lc) (e : osetO ol nx o = some ol') : HL (h.new o) (nx + 1) ol' lc

theorem HL.eq {h : H} {nx : Nat} {ol : OL} {lc : LM} (k : HL h nx ol lc) : h = ⟨nx, og ol, lc⟩ := by
  induction k with
  | base => rfl
  | put k e ih => rw [ih, og_put, osetO_eq e]
  | new k e ih => rw [ih, og_new, osetO_eq e]

section
variable {P : Program} {gl : List Nat} {fr : Fr} {QN : S → Prop} {QX : X → S → Prop} {ds : List Nat} {anc : Nat} {hs : List (RI × List RI)} {l : List RI} {r : RI} {tm tm1 : TM} {df : List AD} {u : Option AMode} {nx : Nat} {ol : OL} {lc : LM} {es : List ER}

theorem WQ.callH {x : RX} {as : List RX} {f : FuncId} {first cap vs ws : List V} {v : V} {h' : H} {nx' : Nat} {ol' : OL} {u' : Option AMode} (hr : r.ro = some (.call x as)) (hw : wantR r.gd tm = some true) (hx : rv gl tm x = some (.fn (.func f) first cap)) (hv : rvs gl tm as = some vs)
    (ha : (first ++ vs) ++ cap = ws) (sc : SCall P gl f ws none ⟨nx, og ol, lc⟩ (.ret v) u' h') (hl : HL h' nx' ol' lc) (hp : putT fr.nt tm r.dst (.v v) = some tm1)
    (h : WQ P gl fr l (SL.toS ⟨tm1, df, u, nx', ol', lc⟩) QN QX) : WQ P gl fr (r :: l) (SL.toS ⟨tm, df, u, nx, ol, lc⟩) QN QX := by
  rw [hl.eq] at sc; exact WQ.callS hr hw hx hv ha sc hp h

theorem DW.callH {l2 : List RI} {x : RX} {as : List RX} {f : FuncId} {first cap vs ws : List V} {v : V} {h' : H} {nx' : Nat} {ol' : OL} {u' : Option AMode} (pd : PendR P gl fr.nt ⟨nx, og ol, lc⟩ anc es) (hr : r.ro = some (.call x as)) (hw : wantR r.gd (tsub tm r.rd) = some true)
    (hx : rv gl (tsub tm r.rd) x = some (.fn (.func f) first cap)) (hv : rvs gl (tsub tm r.rd) as = some vs) (ha : (first ++ vs) ++ cap = ws) (sc : SCall P gl f ws none ⟨nx, og ol, lc⟩ (.ret v) u' h') (hl : HL h' nx' ol' lc) (hp : putT fr.nt tm r.dst (.v v) = some tm1)
    (h : DW P gl fr ds l2 r.anc hs (SL.toS ⟨tm1, df, u, nx', ol', lc⟩) es QN QX) : DW P gl fr ds [] anc ((r, l2) :: hs) (SL.toS ⟨tm, df, u, nx, ol, lc⟩) es QN QX := by
  rw [hl.eq] at sc; exact DW.callS pd hr hw hx hv ha sc hp h

/-! ### appending -/
theorem app_tkR {nt : Nat} {x y : RX} {sz bytes id n n2 : Nat} {z : List V} {es fs fs2 es2 : List (List V)} {c : LC} {ol' : OL} (hx : rv gl tm x = some (.lst es (.tk id))) (hy : rv gl tm y = some (.lst fs c)) (hid : og ol id = some (.tok n)) (hn : n = es.length) (hz : ∀ e ∈ es, e.length = sz) (hzf : ∀ e ∈ fs, e.length = sz)
    (hlim : bytes * (es.length + fs.length) ≤ lim) (hcl : fs.map (·.map V.clean1) = fs2) (hes : es ++ fs2 = es2) (hn2 : n2 = es.length + fs.length) (ho : osetO ol id (.tok n2) = some ol') :
    DoesR P gl nt tm ⟨nx, og ol, lc⟩ (some (.app x y sz bytes z)) (.v (.lst es2 (.tk id))) ⟨nx, og ol', lc⟩ := by
  subst hn; subst hcl; subst hes; subst hn2
  rw [osetO_eq ho]
  intro o hro
  refine ⟨?_, nd_of hro rfl⟩
  have := app_tk (P := P) (gl := gl) (nt := nt) (tm := tm) (h := ⟨nx, og ol, lc⟩) hro hx hid hz (.lst fs c hy hzf) hlim
  rw [og_put] at this
  exact this

theorem app_exR {nt : Nat} {x y : RX} {sz bytes k n2 : Nat} {z : List V} {es fs fs2 es2 : List (List V)} {c : LC} {ol' : OL} (hx : rv gl tm x = some (.lst es (.ex k))) (hy : rv gl tm y = some (.lst fs c)) (hk : k < es.length + fs.length) (hz : ∀ e ∈ es, e.length = sz) (hzf : ∀ e ∈ fs, e.length = sz)
    (hlim : bytes * (es.length + fs.length) ≤ lim) (hcl : fs.map (·.map V.clean1) = fs2) (hes : es ++ fs2 = es2) (hn2 : n2 = es.length + fs.length) (ho : osetO ol nx (.tok n2) = some ol') :
    DoesR P gl nt tm ⟨nx, og ol, lc⟩ (some (.app x y sz bytes z)) (.v (.lst es2 (.tk nx))) ⟨nx + 1, og ol', lc⟩ := by
  subst hcl; subst hes; subst hn2
  rw [osetO_eq ho]
  intro o hro
  refine ⟨?_, nd_of hro rfl⟩
  have := app_ex (P := P) (gl := gl) (nt := nt) (tm := tm) (h := ⟨nx, og ol, lc⟩) hro hx hz (.lst fs c hy hzf) hk hlim
  rw [og_new] at this
  exact this
end

/-! ### memory of which less is known -/
/-- one memory may be told as another. -/
def HW (h1 h2 : H) : Prop := ∀ (E : Env) (F : Fx) (w0 w : World), MR E F h1 w0 w → ∃ E', Ext E h1 E' h2 ∧ MR E' F h2 w0 w

theorem HW.refl (h : H) : HW h h := fun E F w0 w m => ⟨E, Ext.refl _ _, m⟩
theorem HW.trans {a b c : H} (h : HW a b) (k : HW b c) : HW a c := fun E F w0 w m => by
  obtain ⟨E1, x1, m1⟩ := h E F w0 w m
  obtain ⟨E2, x2, m2⟩ := k E1 F w0 w m1
  exact ⟨E2, x1.trans x2, m2⟩
theorem HW.tok (h : H) : HW h (h.new (.tok 0)) := fun E F w0 w m => by
  obtain ⟨m1, x, _, _⟩ := m.ghost (.tok 0) (fun n e => by cases e; rfl)
  exact ⟨E, x, m1⟩
end Go.VM
