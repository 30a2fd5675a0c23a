/- The machine of values: what serves over listed memory: a nil slice or not; memory told anew behind a call; slices.Clone. -/
import Derived.Test.YtdmpeinbbcjamaaVmSl4
set_option linter.unusedVariables false
set_option linter.unusedSimpArgs false
namespace Go.VM
open Go.RowKit

/-- an empty list is nil, or it is not. -/
theorem SCall.nil1 {P : Program} {gl : List Nat} {f : FuncId} {c : LC} {u u' : Option AMode} {h h' : H} {r : AEnd} (h1 : SCall P gl f [.lst [] .nl] u h r u' h') (h2 : SCall P gl f [.lst [] .nn] u h r u' h') : SCall P gl f [.lst [] c] u h r u' h' := by
  refine ⟨h1.lc, h1.fn, fun E F w0 w args' kind cs hF m g ra huk => ?_⟩
  generalize hl : args'.toList = l at ra
  cases ra with
  | cons _ v' _ l' r0 t =>
    cases t
    cases r0 with
    | lst0 _ a cap e =>
      cases a with
      | none =>
        refine h1.run E F w0 w args' kind cs hF m g ?_ huk
        rw [hl]
        exact .cons _ _ _ _ (.lst0 .nl none cap rfl) .nil
      | some a =>
        refine h2.run E F w0 w args' kind cs hF m g ?_ huk
        rw [hl]
        exact .cons _ _ _ _ (.lst0 .nn (some a) cap rfl) .nil


/-- memory told anew behind a call. -/
theorem SCall.heap {P : Program} {gl : List Nat} {f : FuncId} {args : List V} {u u' : Option AMode} {h h1 h2 : H} {r : AEnd} (s : SCall P gl f args u h r u' h1) (k : HW h1 h2) (hlc : h2.lc = h1.lc) (hr : ∀ v, r = .ret v → True)
    (hu : u' = none) (hv : ∃ v, r = .ret v) : SCall P gl f args u h r u' h2 := by
  subst hu
  obtain ⟨v, rfl⟩ := hv
  refine ⟨hlc.trans s.lc, s.fn, fun E F w0 w args' kind cs hF m g ra huk => ?_⟩
  obtain ⟨E', F', w', cs', fr', a1, a2, a3, a4, a5, a6, a7, a8, a9, a10, a11, a12, z1, fnr, x, z2, z3, z4⟩ := s.run E F w0 w args' kind cs hF m g ra huk
  obtain ⟨E2, x2, m2⟩ := k E' F' w0 w' a4
  exact ⟨E2, F', w', cs', fr', a1.trans x2, a2, a3, m2, a5, a6, a7, a8, a9, a10, a11, a12, z1, fnr, x, z2, z3, z4.mono x2.le⟩

def VLes (cs cs' : List V) : Prop := cs'.length = cs.length ∧ ∀ (E : Env) (i : Nat) (v : V) (x : Value), cs[i]? = some v → AR E v x → ∃ v', cs'[i]? = some v' ∧ v'.isCell = v.isCell ∧ AR E v' x

/-- of the cells behind the pointer that comes back less is told. -/
theorem SCall.cells {P : Program} {gl : List Nat} {f : FuncId} {args : List V} {h h1 : H} {b o : Nat} {op : Bool} {cs cs' : List V} (s : SCall P gl f args none h (.ret (.ptr b o)) none h1) (hb : h1.ob b = some (.cells op cs)) (hg : glim ≤ b) (hv : VLes cs cs') :
    SCall P gl f args none h (.ret (.ptr b o)) none (h1.put b (.cells op cs')) := by
  refine ⟨s.lc, s.fn, fun E F w0 w args' kind cks hF m g ra huk => ?_⟩
  obtain ⟨E', F', w', cs2, fr', a1, a2, a3, a4, a5, a6, a7, a8, a9, a10, a11, a12, z1, fnr, x, z2, z3, z4⟩ := s.run E F w0 w args' kind cks hF m g ra huk
  cases z4 with
  | ptr _ _ p hp =>
    have hobj := a4.obj b _ p hb hp
    have hobj' : ObjR E' (.cells op cs') p w' := by
      obtain ⟨c, el, lo, hi, h1, h2, h3, h4, h5⟩ := hobj
      refine ⟨c, el, lo, hi, h1, h2, h3, by rw [hv.1]; exact h4, fun i v hi => ?_⟩
      have hlt : i < cs.length := by rw [← hv.1]; exact (List.getElem?_eq_some_iff.1 hi).1
      obtain ⟨q1, x, q2, q3⟩ := h5 i cs[i] (List.getElem?_eq_getElem hlt)
      obtain ⟨v', g1, g2, g3⟩ := hv.2 E' i _ x (List.getElem?_eq_getElem hlt) q3
      rw [hi] at g1; cases g1
      exact ⟨g2.trans q1, x, q2, g3⟩
    obtain ⟨m2, x2⟩ := a4.put hb hp hg (new := .cells op cs') (by intro n e; cases e) ⟨rfl, rfl, rfl, rfl, fun _ _ => rfl⟩ hobj'
    exact ⟨E', F', w', cs2, fr', a1.trans x2, a2, a3, m2, a5, a6, a7, a8, a9, a10, a11, a12, z1, fnr, _, z2, z3, .ptr b o p hp⟩

/-! ### slices.Clone -/
def rcClone (sz bytes : Nat) (z : List V) : RC := .seq (.reg [⟨0, 0, some (.mv (.c (.lst [] (.ex 0)))), [], some 2, none⟩]) (.seq (.seq (.reg [⟨0, 0, some (.mv (.t 0)), [], some 3, none⟩, ⟨0, 0, some (.snil false (.t 3)), [], some 4, none⟩]) (.cond (.t 4) (.seq (.reg [⟨0, 0, some (.mv (.c (.lst [] (.ex 0)))), [], some 2, none⟩]) .ret) .skip)) (.seq (.reg [⟨0, 0, some (.bs sz 0 z []), [], some 5, none⟩, ⟨0, 0, some (.mv (.t 0)), [], some 6, none⟩, ⟨0, 0, some (.app (.t 5) (.t 6) sz bytes z), [], some 7, none⟩, ⟨0, 0, some (.mv (.t 7)), [], some 2, none⟩]) .ret))

theorem clone_core {P : Program} {f : FuncId} {fn : Func} {sz bytes : Nat} {z : List V} {es : List (List V)} (hfn : P.funcs[f]? = some fn) (hb : fn.body.bind (resC P) = some (rcClone sz bytes z)) (hname : (fn.name == "runtime.NumGoroutine") = false) (hnt : fn.ntmps = 8)
    (hr0 : fn.results.toList = [.tmp 2]) (hin : Inss (· < glim) es) (hz : ∀ e ∈ es, e.length = sz) (hlim : bytes * es.length ≤ lim) (hin2 : Inss (· < glim) (es.map (·.map V.clean1))) :
    SCall P [] f [.lst es .unk] none ⟨glim, og [], []⟩ (.ret (.lst (es.map (·.map V.clean1)) .unk)) none ⟨glim, og [], []⟩ := by
  have hres : ∀ h tm v, tg tm 2 = some (.v v) → resV P h tm fn.results.toList = some [v] := fun h tm v e => by rw [hr0]; simp only [resV, e]
  cases es with
  | nil =>
    refine SCall.nil1 ?_ ?_
    · refine SCall.listed hfn hb hname (by rw [hnt]; rfl) (Nat.le_refl _) rfl trivial ⟨hin2, trivial⟩ ?_
      rw [hnt]; unfold rcClone
      refine WR.seq (WR.reg (WQ.runS [] 100 _ _ _ _ rfl (WQ.nilS ?_)))
      refine WR.seq (WR.seq (WR.reg (WQ.runS [] 100 _ _ _ _ rfl (WQ.nilS ?_))))
      refine WR.condT rfl (WR.seq (WR.reg (WQ.runS [] 100 _ _ _ _ rfl (WQ.nilS ?_))))
      exact WR.ret ⟨rfl, rfl, ⟨_, hres _ _ _ rfl, VLe.clean1 (.lst [] (.ex 0))⟩, fun b _ => rfl⟩
    · refine SCall.listed hfn hb hname (by rw [hnt]; rfl) (Nat.le_refl _) rfl trivial ⟨hin2, trivial⟩ ?_
      rw [hnt]; unfold rcClone
      refine WR.seq (WR.reg (WQ.runS [] 100 _ _ _ _ rfl (WQ.nilS ?_)))
      refine WR.seq (WR.seq (WR.reg (WQ.runS [] 100 _ _ _ _ rfl (WQ.nilS ?_))))
      refine WR.condF rfl (WR.skip ?_)
      refine WR.seq (WR.reg (WQ.runS [] 2 _ _ _ _ rfl ?_))
      refine WQ.doesS (v := .v (.lst [] (.ex 0))) rfl (fun o ho => ⟨app_none ho rfl (.lst [] .nn rfl (by simp)), nd_of ho rfl⟩) rfl (WQ.runS [] 100 _ _ _ _ rfl (WQ.nilS ?_))
      exact WR.ret ⟨rfl, rfl, ⟨_, hres _ _ _ rfl, VLe.clean1 (.lst [] (.ex 0))⟩, fun b _ => rfl⟩
  | cons e es =>
    refine SCall.listed hfn hb hname (by rw [hnt]; rfl) (Nat.le_refl _) rfl trivial ⟨hin2, trivial⟩ ?_
    rw [hnt]; unfold rcClone
    refine WR.seq (WR.reg (WQ.runS [] 100 _ _ _ _ rfl (WQ.nilS ?_)))
    refine WR.seq (WR.seq (WR.reg (WQ.runS [] 100 _ _ _ _ rfl (WQ.nilS ?_))))
    refine WR.condF rfl (WR.skip ?_)
    refine WR.seq (WR.reg (WQ.runS [] 2 _ _ _ _ rfl ?_))
    refine WQ.doesS rfl (app_exR (es2 := (e :: es).map (·.map V.clean1)) (n2 := es.length + 1) rfl rfl (by simp) (by simp) hz (by simpa using hlim) rfl rfl (by simp) rfl) rfl (WQ.runS [] 100 _ _ _ _ rfl (WQ.nilS ?_))
    refine WR.ret ⟨rfl, rfl, ⟨_, hres _ _ _ rfl, VLe.clean1 (.lst _ (.tk _))⟩, fun b hb => ?_⟩
    show none = og _ b
    rw [og_cons, if_neg (by intro e; subst e; exact Nat.lt_irrefl _ hb)]; rfl
end Go.VM
