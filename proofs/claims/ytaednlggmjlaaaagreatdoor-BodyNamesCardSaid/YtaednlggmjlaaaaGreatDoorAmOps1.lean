/- The abstract machine: operands, types, comparing. -/
import Derived.Test.YtaednlggmjlaaaaGreatDoorAmMem
import Derived.Laws.StructEq
import Derived.ChangeKeysEq
set_option linter.unusedVariables false
set_option linter.unusedSimpArgs false
namespace Go.AM
noncomputable section
open Go.RowKit
variable {P : Program}

/-! ### operands -/
def evT (tmps : Array Value) : Operand → Value
  | .tmp t => tmps.getD t undef
  | .const v => v
  | .global g => .pointer (some ⟨g, 0, none⟩)
  | .func f => .func (.func f) #[] #[]

theorem cvs_sound {E : Env} {n : Nat} (ih : ∀ x v, cv n x = some v → AR E v x) : ∀ (l : List Value) (r : List V), l.mapM (cv n) = some r → ARs E r l
  | [], r, h => by
    have : r = [] := by simpa using h.symm
    subst this; exact .nil
  | x :: l, r, h => by
    rw [List.mapM_cons] at h
    cases hx : cv n x with
    | none => rw [hx] at h; simp at h
    | some v =>
      cases hl : l.mapM (cv n) with
      | none => rw [hx, hl] at h; simp at h
      | some vs =>
        rw [hx, hl] at h
        have : r = v :: vs := by simpa using h.symm
        subst this
        exact .cons _ _ _ _ (ih _ _ hx) (cvs_sound ih l vs hl)

theorem cv_sound (E : Env) : ∀ (n : Nat) (x : Value) (v : V), cv n x = some v → AR E v x := by
  intro n
  induction n with
  | zero => intro x v h; simp [cv] at h
  | succ n ih =>
    intro x v h
    cases x with
    | bool b => simp [cv] at h; subst h; exact .bool b
    | int k m => simp [cv] at h; subst h; exact .int k m
    | string s => simp only [cv, Option.some.injEq] at h; subst h; exact .str _ s rfl
    | pointer a => cases a <;> simp [cv] at h; subst h; exact .nilp
    | slice a l c =>
      cases a with
      | some a => simp [cv] at h
      | none =>
        cases l with
        | succ l => simp [cv] at h
        | zero => cases c with
          | succ c => simp [cv] at h
          | zero => simp [cv] at h; subst h; exact .nils
    | map r => cases r <;> simp [cv] at h; subst h; exact .nilm
    | nilFunc => simp [cv] at h; subst h; exact .nilf
    | nilIface => simp [cv] at h; subst h; exact .nili
    | iface t x =>
      simp only [cv] at h
      cases hx : cv n x with
      | none => rw [hx] at h; cases h
      | some u => rw [hx] at h; cases h; exact .iface t u x (ih x u hx)
    | agg cs =>
      simp only [cv] at h
      cases hx : cs.toList.mapM (cv n) with
      | none => rw [hx] at h; cases h
      | some u => rw [hx] at h; cases h; exact .agg u cs (cvs_sound ih _ _ hx)
    | tuple cs =>
      simp only [cv] at h
      cases hx : cs.toList.mapM (cv n) with
      | none => rw [hx] at h; cases h
      | some u => rw [hx] at h; cases h; exact .tup u cs (cvs_sound ih _ _ hx)
    | float k b => simp [cv] at h
    | complex k a b => simp [cv] at h
    | chan r => simp [cv] at h
    | func f a c => simp [cv] at h

def GL (E : Env) (gl : List Nat) : Prop := ∀ g, gl.contains g = true → ∃ p, E g = some p ∧ p.blk = g ∧ p.off = 0
theorem GL.mono {E E' : Env} {gl : List Nat} (h : E.le E') (g : GL E gl) : GL E' gl := fun x hx => let ⟨p, a, b⟩ := g x hx; ⟨p, h _ _ a, b⟩

theorem ev_sound {E : Env} {gl : List Nat} {nt : Nat} {tm : T V} {tmps : Array Value} (hg : GL E gl) (r : TR E nt tm tmps) {x : Operand} {v : V} (h : ev gl tm x = some v) : AR E v (evT tmps x) := by
  cases x with
  | tmp t =>
    obtain ⟨v', h1, h2⟩ := r.2 t v h
    simpa [evT, Array.getD_eq_getD_getElem?, h1] using h2
  | const c => exact cv_sound E 6 c v h
  | func f => simp [ev] at h; subst h; exact .fn f [] [] #[] #[] .nil .nil
  | global g =>
    simp only [ev] at h
    split at h
    · rename_i hc
      cases h
      obtain ⟨p, hp, rfl, h0⟩ := hg g hc
      have := AR.ptr (E := E) p.blk 0 p hp
      simpa [evT, h0] using this
    · cases h

theorem evs_sound {E : Env} {gl : List Nat} {nt : Nat} {tm : T V} {tmps : Array Value} (hg : GL E gl) (r : TR E nt tm tmps) : ∀ {xs : List Operand} {vs : List V}, evs gl tm xs = some vs → ARs E vs (xs.map (evT tmps))
  | [], vs, h => by simp [evs] at h; subst h; exact .nil
  | x :: xs, vs, h => by
    simp only [evs] at h
    split at h
    · rename_i v l h1 h2
      cases h
      exact .cons _ _ _ _ (ev_sound hg r h1) (evs_sound hg r h2)
    · cases h

/-! ### types -/
theorem run_info {t : TypeId} {i : TypeInfo} (h : P.info? t = some i) (w : World) : (typeInfo t).run P w = .ok i w := run_typeInfo w h

theorem run_szT {t : TypeId} {n : Nat} (h : szT P t = some n) (w : World) : (sizeOf t).run P w = .ok n w := by
  unfold szT at h
  cases hi : P.info? t with
  | none => rw [hi] at h; cases h
  | some i => rw [hi] at h; cases h; simp [sizeOf, run_info hi]

theorem run_isAggT {t : TypeId} {b : Bool} (h : isAggT P t = some b) (w : World) : (isAgg t).run P w = .ok b w := by
  unfold isAggT at h
  cases hu : P.underlying t with
  | none => rw [hu] at h; cases h
  | some d => rw [hu] at h; cases d <;> cases h <;> simp [isAgg, run_underlying hu]

theorem run_zeroT (E : Env) {t : TypeId} {z : V} (h : zeroT P t = some z) (w : World) : ∃ z', (zeroValue t).run P w = .ok z' w ∧ AR E z z' := by
  unfold zeroT at h
  cases hi : P.info? t with
  | none => rw [hi] at h; cases h
  | some i =>
    rw [hi] at h
    simp only [Option.bind_some] at h
    cases hz : i.zero with
    | none => rw [hz] at h; cases h
    | some z' =>
      rw [hz] at h
      exact ⟨z', by simp [zeroValue, run_info hi, hz], cv_sound E 4 z' z h⟩

theorem partV_sound {E : Env} {t : TypeId} {cs : List V} {cs' : Array Value} {off : Nat} {v : V} (h : partV P t cs off = some v) (r : ARs E cs cs'.toList) (w : World) :
    ∃ v', (part t cs' off).run P w = .ok v' w ∧ AR E v v' := by
  unfold partV at h
  split at h
  · rename_i ha
    split at h
    · rename_i n hn
      split at h
      · cases h
        refine ⟨.agg (cs'.extract off (off + n)), by simp [part, run_isAggT ha, run_szT hn], .agg _ _ ?_⟩
        have := (r.drop off).take n
        rw [Array.toList_extract]
        simpa [List.extract] using this
      · cases h
    · cases h
  · rename_i ha
    obtain ⟨v', hv, hr⟩ := r.get off v h
    have hv' : cs'[off]? = some v' := by simpa using hv
    exact ⟨v', by simp [part, run_isAggT ha, hv'], hr⟩
  · cases h

/-! ### comparing -/
theorem str_inj {s t : List Nat} {x y : ByteArray} (hx : x.data.toList.map UInt8.toNat = s) (hy : y.data.toList.map UInt8.toNat = t) : (x.toList == y.toList) = seq s t := by
  rw [ByteArray.toList_eq, ByteArray.toList_eq, Bool.eq_iff_iff, seq_iff, beq_iff_eq, ← hx, ← hy]
  constructor
  · intro e; rw [e]
  · intro e
    exact (List.map_inj_right (fun a b h => UInt8.toNat_inj.1 h)).1 e

theorem str_lt : ∀ (x y : List UInt8), Op.bytesLess x y = slt (x.map UInt8.toNat) (y.map UInt8.toNat)
  | x, [] => by cases x <;> rfl
  | [], b :: y => rfl
  | a :: x, b :: y => by
    simp only [Op.bytesLess, List.map_cons, slt, str_lt x y]
    have e1 : decide (a < b) = Nat.blt a.toNat b.toNat := by
      rw [Bool.eq_iff_iff, decide_eq_true_eq, UInt8.lt_iff_toNat_lt, Nat.blt_eq]
    have e2 : (a == b) = Nat.beq a.toNat b.toNat := by
      rw [Bool.eq_iff_iff, beq_iff_eq, ← UInt8.toNat_inj, Nat.beq_eq]
    rw [e1, e2]

set_option maxHeartbeats 1000000 in
theorem veq_sound (E : Env) : ∀ (f : Nat), (∀ d t x y b x' y' (w : World), f ≤ d → veq P f t x y = some b → AR E x x' → AR E y y' → (Op.equalIn d t x' y').run P w = .ok b w) ∧
    (∀ d fs xs ys b (xs' ys' : Array Value) (w : World), f ≤ d + 1 → feq P f fs xs ys = some b → ARs E xs xs'.toList → ARs E ys ys'.toList → (Op.eqFields d xs' ys' fs).run P w = .ok b w) := by
  intro f
  induction f with
  | zero => exact ⟨fun d t x y b x' y' w _ h => by simp [veq] at h, fun d fs xs ys b xs' ys' w _ h => by cases fs <;> simp [feq] at h⟩
  | succ f ih =>
    refine ⟨fun d t x y b x' y' w hd h hx hy => ?_, fun d fs xs ys b xs' ys' w hd h hx hy => ?_⟩
    · obtain ⟨d, rfl⟩ : ∃ e, d = e + 1 := ⟨d - 1, by omega⟩
      have hd' : f ≤ d := by omega
      unfold veq at h
      split at h
      case h_1 hu => cases hx; cases hy; cases h; simp [Op.equalIn, run_underlying hu]
      case h_2 k0 k a k' c hu =>
        cases hx; cases hy
        split at h
        · rename_i e; subst e; cases h; simp [Op.equalIn, run_underlying hu]
        · cases h
      case h_3 hu =>
        cases hx with
        | str s x' e => cases hy with
          | str s2 y' e2 =>
            cases h
            simp only [Op.equalIn, Sem.run_bind, run_underlying hu, Result.andThen_ok, Sem.run_pure]
            rw [beq_toListBytes, str_inj e e2]
      case h_10 tx vx ty vy hu =>
        cases hx with
        | iface _ _ vx' hx' => cases hy with
          | iface _ _ vy' hy' =>
            split at h
            · rename_i e
              subst e
              split at h
              · rename_i hc
                cases hi : P.info? tx with
                | none => rw [hi] at hc; simp at hc
                | some i =>
                  rw [hi] at hc
                  have hcomp : i.comparable = true := by simpa using hc
                  simp only [Op.equalIn, Sem.run_bind, run_underlying hu, Result.andThen_ok, ne_eq, not_true, if_false, run_info hi, hcomp, Bool.not_true, Bool.false_eq_true]
                  exact ih.1 d tx vx vy b vx' vy' w hd' h hx' hy'
              · cases h
            · rename_i e
              cases h
              simp [Op.equalIn, run_underlying hu, e]
      case h_11 fields l l2 hu =>
        cases hx with
        | agg _ cs hl => cases hy with
          | agg _ cs2 hl2 =>
            split at h
            · cases h
            · rename_i hs
              have hf : P.fieldsOf t = fields := by simp [Program.fieldsOf, hu]
              rw [run_equalIn_struct (P := P) w d t cs cs2 (by rw [hf]; exact hu) hs, hf]
              exact ih.2 d fields.toList l l2 b cs cs2 w (by omega) h hl hl2
      all_goals first
        | (cases h; done)
        | (rename_i hu; cases hx <;> cases hy <;> cases h <;> simp [Op.equalIn, run_underlying hu]; done)
    · cases fs with
      | nil => simp [feq] at h; subst h; simp [Op.eqFields]
      | cons fd fs =>
        simp only [feq] at h
        split at h
        · cases h
        · rename_i hn
          split at h
          · rename_i a c ha hc
            obtain ⟨a', ra, rra⟩ := partV_sound ha hx w
            obtain ⟨c', rc, rrc⟩ := partV_sound hc hy w
            split at h
            · rename_i hv
              have := ih.1 d _ _ _ _ _ _ w (by omega) hv rra rrc
              have ih2 := ih.2 d fs xs ys b xs' ys' w (by omega) h hx hy
              simp [Op.eqFields, hn, ra, rc, this, ih2]
            · rename_i hv
              cases h
              have := ih.1 d _ _ _ _ _ _ w (by omega) hv rra rrc
              simp [Op.eqFields, hn, ra, rc, this]
            · cases h
          · cases h
end
end Go.AM
