/- The abstract machine: regions in the order of the text. -/
import Derived.Test.YtaednlggmjlaaaaGreatDoorAmHeavy
set_option linter.unusedVariables false
set_option linter.unusedSimpArgs false
namespace Go.AM
noncomputable section
open Go.RowKit

theorem opx_sound {C : Cfg} (pr : PrOk C) {rec : Req → M Res} (S : Sound C rec) {fr : Fr} {o : Oper} {s : AM.S} {r : OR} (h : opx C rec fr o s = .ok r) : OpR C.P C.gl fr o s r := by
  unfold opx at h
  split at h
  · rename_i v hv; cases h; exact light_opR hv
  · split at h
    · rename_i v h' hv; cases h; exact alloc_opR hv
    · split at h
      · rename_i h' hv; cases h; exact store_opR hv
      · exact heavy_sound pr S h

theorem wanted_sound {E : Env} {nt : Nat} {tm : T V} {tmps : Array Value} {ops : Array Oper} {o : Oper} {q : Bool} (h : wantedA ops o tm = some q) (r : TR E nt tm tmps) : Region.wanted o (yielded ops tmps) = q := by
  unfold wantedA at h
  unfold Region.wanted
  cases hg : o.guard with
  | none => rw [hg] at h; simpa using h
  | some jw =>
    obtain ⟨j, want⟩ := jw
    rw [hg] at h
    simp only at h ⊢
    cases hd : (ops[j]?).bind (·.dst) with
    | none => rw [hd] at h; cases h; simp [yielded, hd]
    | some d =>
      rw [hd] at h
      simp only at h
      cases ht : tm.get d with
      | none => rw [ht] at h; cases h
      | some u =>
        obtain ⟨u', hu, hr⟩ := r.2 d u ht
        rw [ht] at h
        cases u with
        | bool c => cases h; cases hr; simp [yielded, hd, hu]
        | _ => cases h; cases hr <;> simp [yielded, hd, hu]

def IxR (ops : Array Oper) : Nat → Oper → Prop := fun i o => ops[i]? = some o

theorem ix_range (ops : Array Oper) : All₂ (IxR ops) (List.range ops.size) ops.toList := by
  have key : ∀ (l : List Oper) (n : Nat) (ops : Array Oper), (∀ j o, l[j]? = some o → ops[n + j]? = some o) → All₂ (IxR ops) (List.range' n l.length) l := by
    intro l
    induction l with
    | nil => intro n ops h; exact .nil
    | cons a l ih =>
      intro n ops h
      rw [List.length_cons, List.range'_succ]
      refine .cons (h 0 a rfl) (ih (n + 1) ops fun j o hj => ?_)
      have := h (j + 1) o (by simpa using hj)
      rwa [show n + 1 + j = n + (j + 1) by omega]
  rw [List.range_eq_range', ← Array.length_toList]
  exact key ops.toList 0 ops fun j o hj => by rw [Nat.zero_add]; simpa using hj

theorem StR.put {gl : List Nat} {E : Env} {fr : Fr} {s : S} {b : Frame} {tmps : Array Value} {df : List Deferred} {cs : List Frame} {w0 w : World} (st : StR gl E fr s b tmps df cs w0 w) {tm : T V} {dst : Option Nat} {v : V} {v' : Value}
    (h : putT fr.nt s.tm dst v = some tm) (hv : AR E v v') : StR gl E fr { s with tm } b (putA tmps dst v') df cs w0 w :=
  ⟨st.mr, put_TR st.tr h hv st.fr.nt, st.dr, st.uk, st.fr, st.gl⟩

theorem seqOps_sound {C : Cfg} (pr : PrOk C) {rec : Req → M Res} (S : Sound C rec) {fr : Fr} {ops : Array Oper} : ∀ (l : List Nat) (os : List Oper), All₂ (IxR ops) l os → ∀ (s : AM.S) (x : X) (s' : AM.S), seqOps C rec fr ops os s = .ok (.x x s') →
    SItem C.P C.gl fr (.inRegion ops l) s x s' := by
  intro l os hl
  induction hl with
  | nil =>
    intro s x s' h
    simp only [seqOps_n, seqOps_c] at h
    cases h
    intro E w0 w b tmps df cs k st
    exact ⟨E, tmps, df, cs, w, Ext.refl _ _, st, CS.refl st.uk, rfl, .one st_end⟩
  | @cons i o l os hi ht ih =>
    intro s x s' h
    simp only [seqOps_n, seqOps_c] at h
    intro E w0 w b tmps df cs k st
    split at h
    · cases h
    · rename_i hq
      have hw := wanted_sound hq st.tr
      split at h
      · rename_i tm htm
        have st2 := st.put htm (.tup [] #[] .nil)
        obtain ⟨E', tmps', df', cs', w', a1, a2, a3, a4, a5⟩ := ih _ x s' h E w0 w b _ df cs k st2
        exact ⟨E', tmps', df', cs', w', a1, a2, a3, a4, Arr.of (.one (st_op_skip hi hw)) a5⟩
      · cases h
    · rename_i hq
      have hw := wanted_sound hq st.tr
      split at h
      · cases h
      · rename_i ch s2 hop
        cases h
        obtain ⟨e, E', df', cs', w', todo, ch', a1, a2, a3, a4, a5, a6⟩ := opx_sound pr S hop E w0 w b tmps df cs k ops i l st hi hw
        exact ⟨E', tmps, df', cs', w', a1, a2, a3, a4, todo, ch', a5, a6⟩
      · rename_i v s2 hop
        obtain ⟨e, E', df', cs', w', v', a1, a2, a3, a4, a5, a6⟩ := opx_sound pr S hop E w0 w b tmps df cs k ops i l st hi hw
        split at h
        · rename_i tm htm
          have st3 := a2.put htm a5
          obtain ⟨E2, tmps2, df2, cs2, w2, b1, b2, b3, b4, b5⟩ := ih _ x s' h E' w0 w' b _ df' cs' k st3
          exact ⟨E2, tmps2, df2, cs2, w2, a1.trans b1, b2, CS.trans a3 b3 a4, b4.trans a4, Arr.of a6 b5⟩
        · cases h
end
end Go.AM
