/- The abstract machine: a step of the whole is sound, if what it asks is. -/
import Derived.Test.YtaednlggmjlaaaaGreatDoorAmSeq
set_option linter.unusedVariables false
set_option linter.unusedSimpArgs false
namespace Go.AM
noncomputable section
open Go.RowKit

theorem exitTo_code (id : Nat) (c : Code) (k : List Item) : exitTo id (.code c :: k) = exitTo id k := rfl
theorem exitTo_inLoop (id : Nat) (c : Code) (k : List Item) : exitTo id (.inLoop c :: k) = exitTo id k := rfl
theorem exitTo_inScope (id : Nat) (c : Code) (k : List Item) : exitTo id (.inScope c :: k) = exitTo id k := rfl
theorem exitTo_inBlock (id i : Nat) (k : List Item) : exitTo id (.inBlock i :: k) = if i == id then some k else exitTo id k := rfl

/-- leaving past an item that no exit asks for. -/
theorem Arr.pass {P : Program} {E : Env} {x : X} {m : Machine} {b : Frame} {it : Item} {k : List Item} {tmps : Array Value} {df : List Deferred} {cs : List Frame} {w : World}
    (hx : ∀ id, exitTo id (it :: k) = exitTo id k) (hn : x ≠ .norm) (a : Arr P E x m b (it :: k) tmps df cs w) : Arr P E x m b k tmps df cs w := by
  cases x with
  | norm => exact absurd rfl hn
  | exit id => obtain ⟨k', e, s⟩ := a; exact ⟨k', e.trans (hx id), s⟩
  | ret => exact a
  | panic ch => exact a

/-- a step into an item, and what comes of it. -/
theorem SItem.of_step {P : Program} {gl : List Nat} {fr : Fr} {it it2 : Item} {s : S} {x : X} {s' : S} (h : SItem P gl fr it2 s x s')
    (hs : ∀ (b : Frame) (tmps : Array Value) (df : List Deferred) (cs : List Frame) (k : List Item) (w : World), step P (lone (mkF b tmps (it :: k) df) cs w) = .next (lone (mkF b tmps (it2 :: k) df) cs w)) : SItem P gl fr it s x s' := by
  intro E w0 w b tmps df cs k st
  obtain ⟨E', tmps', df', cs', w', a1, a2, a3, a4, a5⟩ := h E w0 w b tmps df cs k st
  exact ⟨E', tmps', df', cs', w', a1, a2, a3, a4, Arr.of (.one (hs b tmps df cs k w)) a5⟩

theorem SItem.norm {P : Program} {gl : List Nat} {fr : Fr} {it : Item} {s : S} (hs : ∀ (b : Frame) (tmps : Array Value) (df : List Deferred) (cs : List Frame) (k : List Item) (w : World), step P (lone (mkF b tmps (it :: k) df) cs w) = .next (lone (mkF b tmps k df) cs w)) :
    SItem P gl fr it s .norm s := by
  intro E w0 w b tmps df cs k st
  exact ⟨E, tmps, df, cs, w, Ext.refl _ _, st, CS.refl st.uk, rfl, .one (hs b tmps df cs k w)⟩

/-- one piece behind another. -/
theorem SItem.seq {P : Program} {gl : List Nat} {fr : Fr} {it it1 it2 : Item} {s s1 s' : S} {x : X} (h1 : SItem P gl fr it1 s .norm s1) (h2 : SItem P gl fr it2 s1 x s')
    (hs : ∀ (b : Frame) (tmps : Array Value) (df : List Deferred) (cs : List Frame) (k : List Item) (w : World), step P (lone (mkF b tmps (it :: k) df) cs w) = .next (lone (mkF b tmps (it1 :: it2 :: k) df) cs w)) : SItem P gl fr it s x s' := by
  intro E w0 w b tmps df cs k st
  obtain ⟨E1, t1, d1, c1, w1, a1, a2, a3, a4, a5⟩ := h1 E w0 w b tmps df cs (it2 :: k) st
  obtain ⟨E2, t2, d2, c2, w2, b1, b2, b3, b4, b5⟩ := h2 E1 w0 w1 b t1 d1 c1 k a2
  exact ⟨E2, t2, d2, c2, w2, a1.trans b1, b2, a3.trans b3 a4, b4.trans a4, Arr.of (Steps.head (hs b tmps df cs k w) a5) b5⟩

theorem SItem.stop {P : Program} {gl : List Nat} {fr : Fr} {it it1 it2 : Item} {s s' : S} {x : X} (h1 : SItem P gl fr it1 s x s') (hx : x ≠ .norm) (he : ∀ id k, exitTo id (it2 :: k) = exitTo id k)
    (hs : ∀ (b : Frame) (tmps : Array Value) (df : List Deferred) (cs : List Frame) (k : List Item) (w : World), step P (lone (mkF b tmps (it :: k) df) cs w) = .next (lone (mkF b tmps (it1 :: it2 :: k) df) cs w)) : SItem P gl fr it s x s' := by
  intro E w0 w b tmps df cs k st
  obtain ⟨E1, t1, d1, c1, w1, a1, a2, a3, a4, a5⟩ := h1 E w0 w b tmps df cs (it2 :: k) st
  exact ⟨E1, t1, d1, c1, w1, a1, a2, a3, a4, Arr.of (.one (hs b tmps df cs k w)) (Arr.pass (fun id => he id k) hx a5)⟩

theorem then_ok' {r : M Res} {k : S → M Res} {x : X} {s' : S} (h : then_ r k = .ok (.x x s')) : (∃ s1, r = .ok (.x .norm s1) ∧ k s1 = .ok (.x x s')) ∨ (r = .ok (.x x s') ∧ x ≠ .norm) := by
  unfold then_ at h
  split at h
  · rename_i s; exact .inl ⟨s, rfl, h⟩
  · rename_i hn
    exact .inr ⟨h, by rintro rfl; exact hn _ h⟩

theorem code_sound {C : Cfg} (pr : PrOk C) {rec : Req → M Res} (S : Sound C rec) (hdraw : ∀ (fr : Fr) (id : Nat) (ops : Array Oper) (s : AM.S) (x : X) (s' : AM.S), drawnOps C rec fr ops s = .ok (.x x s') → SItem C.P C.gl fr (.code (.region id ops true)) s x s')
    (hrf : ∀ (fr : Fr) (f : Operand) (ps : Array Tmp) (as bd : Code) (s : AM.S) (x : X) (s' : AM.S), stepR C rec (.code fr (.rangeFunc f ps as bd) s) = .ok (.x x s') → SItem C.P C.gl fr (.code (.rangeFunc f ps as bd)) s x s')
    {fr : Fr} {c : Code} {s : AM.S} {x : X} {s' : AM.S} (h : stepR C rec (.code fr c s) = .ok (.x x s')) : SItem C.P C.gl fr (.code c) s x s' ∧ ∀ d, c = .loop d → SItem C.P C.gl fr (.inLoop d) s x s' := by
  have hS : ∀ {fr c s x s'}, rec (.code fr c s) = .ok (.x x s') → SItem C.P C.gl fr (.code c) s x s' := fun h => (S.code _ _ _ _ _ h).1
  by_cases hl : ∃ d, c = .loop d
  · obtain ⟨d, rfl⟩ := hl
    simp only [stepR] at h
    rcases then_ok' h with ⟨s1, h1, h2⟩ | ⟨h1, hx⟩
    · have i2 := (S.code _ _ _ _ _ h2).2 d rfl
      refine ⟨SItem.seq (hS h1) i2 fun _ _ _ _ _ _ => st_loop, ?_⟩
      rintro d' e
      cases e
      exact SItem.seq (hS h1) i2 fun _ _ _ _ _ _ => st_inLoop
    · refine ⟨SItem.stop (it2 := .inLoop d) (hS h1) hx (fun id k => rfl) fun _ _ _ _ _ _ => st_loop, ?_⟩
      rintro d' e
      cases e
      exact SItem.stop (it2 := .inLoop d) (hS h1) hx (fun id k => rfl) fun _ _ _ _ _ _ => st_inLoop
  refine ⟨?_, fun d e => absurd ⟨d, e⟩ hl⟩
  cases c with
  | skip => simp only [stepR] at h; cases h; exact SItem.norm fun _ _ _ _ _ _ => st_skip
  | label l => simp only [stepR] at h; cases h; exact SItem.norm fun _ _ _ _ _ _ => st_label
  | region id ops draw =>
    cases draw with
    | false =>
      simp only [stepR] at h
      exact SItem.of_step (seqOps_sound pr S _ _ (ix_range ops) s x s' h) fun _ _ _ _ _ _ => st_region
    | true => simp only [stepR] at h; exact hdraw fr id ops s x s' h
  | seq a d =>
    simp only [stepR] at h
    rcases then_ok' h with ⟨s1, h1, h2⟩ | ⟨h1, hx⟩
    · exact SItem.seq (hS h1) (hS h2) fun _ _ _ _ _ _ => st_seq
    · exact SItem.stop (it2 := .code d) (hS h1) hx (fun id k => rfl) fun _ _ _ _ _ _ => st_seq
  | cond y a d =>
    simp only [stepR] at h
    split at h
    · rename_i he
      intro E w0 w b tmps df cs k st
      have hr := ev_sound st.gl st.tr he
      have hb : evT tmps y = .bool true := by cases hv : evT tmps y <;> rw [hv] at hr <;> cases hr; rfl
      obtain ⟨E', t', d', c', w', a1, a2, a3, a4, a5⟩ := hS h E w0 w b tmps df cs k st
      exact ⟨E', t', d', c', w', a1, a2, a3, a4, Arr.of (.one (st_cond hb)) a5⟩
    · rename_i he
      intro E w0 w b tmps df cs k st
      have hr := ev_sound st.gl st.tr he
      have hb : evT tmps y = .bool false := by cases hv : evT tmps y <;> rw [hv] at hr <;> cases hr; rfl
      obtain ⟨E', t', d', c', w', a1, a2, a3, a4, a5⟩ := hS h E w0 w b tmps df cs k st
      exact ⟨E', t', d', c', w', a1, a2, a3, a4, Arr.of (.one (st_cond hb)) a5⟩
    · cases h
  | block id d =>
    simp only [stepR] at h
    have go : ∀ y s2, rec (.code fr d s) = .ok (.x y s2) → ∀ (E : Env) (w0 w : World) (b : Frame) (tmps : Array Value) (df : List Deferred) (cs : List Frame) (k : List Item), StR C.gl E fr s b tmps df cs w0 w →
        ∃ E' tmps' df' cs' w', Ext E s.h E' s2.h ∧ StR C.gl E' fr s2 b tmps' df' cs' w0 w' ∧ CS s.u cs cs' ∧ s2.u.isSome = s.u.isSome ∧ Arr C.P E' y (lone (mkF b tmps (.code (.block id d) :: k) df) cs w) b (.inBlock id :: k) tmps' df' cs' w' := by
      intro y s2 hy E w0 w b tmps df cs k st
      obtain ⟨E', t', d', c', w', a1, a2, a3, a4, a5⟩ := hS hy E w0 w b tmps df cs (.inBlock id :: k) st
      exact ⟨E', t', d', c', w', a1, a2, a3, a4, Arr.of (.one st_block) a5⟩
    split at h
    · rename_i i s2 hr
      intro E w0 w b tmps df cs k st
      obtain ⟨E', t', d', c', w', a1, a2, a3, a4, k', e, a5⟩ := go _ _ hr E w0 w b tmps df cs k st
      rw [exitTo_inBlock] at e
      split at h
      · rename_i hi
        cases h
        subst hi
        rw [if_pos (by simp)] at e
        exact ⟨E', t', d', c', w', a1, a2, a3, a4, a5.trans (.one (st_exit e))⟩
      · rename_i hi
        cases h
        rw [if_neg (by simpa using fun e => hi e.symm)] at e
        exact ⟨E', t', d', c', w', a1, a2, a3, a4, k', e, a5⟩
    · rename_i hn
      intro E w0 w b tmps df cs k st
      obtain ⟨E', t', d', c', w', a1, a2, a3, a4, a5⟩ := go _ _ h E w0 w b tmps df cs k st
      refine ⟨E', t', d', c', w', a1, a2, a3, a4, ?_⟩
      cases x with
      | norm => exact a5.trans (.one st_inBlock)
      | exit i => exact absurd h (hn _ _)
      | ret => exact a5
      | panic ch => exact a5
  | scope d =>
    simp only [stepR] at h
    intro E w0 w b tmps df cs k st
    obtain ⟨E', t', d', c', w', a1, a2, a3, a4, a5⟩ := hS h E w0 w b tmps df cs (.inScope d :: k) st
    refine ⟨E', t', d', c', w', a1, a2, a3, a4, Arr.of (.one st_scope) ?_⟩
    cases x with
    | norm => exact a5.trans (.one st_inScope)
    | exit i => obtain ⟨k', e, s⟩ := a5; exact ⟨k', e, s⟩
    | ret => exact a5
    | panic ch => exact a5
  | loop d => exact absurd ⟨d, rfl⟩ hl
  | exit id =>
    simp only [stepR] at h; cases h
    intro E w0 w b tmps df cs k st
    exact ⟨E, tmps, df, cs, w, Ext.refl _ _, st, CS.refl st.uk, rfl, k, rfl, Steps.refl _ _⟩
  | ret =>
    simp only [stepR] at h; cases h
    intro E w0 w b tmps df cs k st
    exact ⟨E, tmps, df, cs, w, Ext.refl _ _, st, CS.refl st.uk, rfl, k, Steps.refl _ _⟩
  | rangeFunc f ps assign body =>
    exact hrf _ _ _ _ _ _ _ _ h
  | goto l => simp [stepR] at h
  | refuse y => simp [stepR] at h
end
end Go.AM
