/- The abstract machine: maps that are written, rows that are cleared. -/
import Derived.Test.YtaednlggmjlaaaaGreatDoorAmOps5
set_option linter.unusedVariables false
set_option linter.unusedSimpArgs false
namespace Go.AM
noncomputable section
open Go.RowKit
variable {P : Program}

theorem getObj_map {w : World} {B : Nat} {ents : Array MapEntry} {clock : Nat} (h : w.heap[B]? = some (.map ents clock)) : (getObj B).run P w = .ok (.map ents clock) w := by
  simp [getObj, Sem.run, h]

theorem setObj_map {w : World} {B : Nat} {ents : Array MapEntry} {clock : Nat} (h : w.heap[B]? = some (.map ents clock)) (o : Go.Obj) : (setObj B o).run P w = .ok () { w with heap := w.heap.setIfInBounds B o } := by
  simp [setObj, Sem.run, h]

/-- a map's entries are others. -/
theorem map_put {E : Env} {h : H} {w0 w : World} (m : MR E h w0 w) {b : Nat} {es es' : List (V × V)} {p : Place} {ents ents' : Array MapEntry} {clock clock' : Nat} (hb : h.get b = some (.map es)) (hE : E b = some p)
    (hw : w.heap[p.blk]? = some (.map ents clock)) (hr : All₂ (EntR E) es' ents'.toList) :
    MR E (h.put b (.map es')) w0 { w with heap := w.heap.setIfInBounds p.blk (.map ents' clock') } ∧ Ext E h E (h.put b (.map es')) := by
  have hlt : p.blk < w.heap.size := m.lt b p hE
  have hg : glim ≤ b := by
    rcases Nat.lt_or_ge b glim with g | g
    · obtain ⟨op, cs, e⟩ := m.glb b _ g hb; cases e
    · exact g
  refine put_sound m hb hE hg (fun k hk => ?_) (by simp) rfl rfl rfl ⟨ents', clock', ?_, hr⟩
  · rw [Array.getElem?_setIfInBounds, if_neg (fun e => hk e.symm)]
  · simp [hlt]

theorem sameBits_of {E : Env} {k k2 : V} {k' k2' : Value} (h : keyEq k k2 = some true) (r : AR E k k') (r2 : AR E k2 k2') : Instr.sameBits 10000 k2' k' = true := by
  cases k <;> cases k2 <;> simp [keyEq] at h
  · cases r; cases r2; simp [Instr.sameBits, h]
  · obtain ⟨rfl, rfl⟩ := h; cases r; cases r2; simp [Instr.sameBits]
  · rename_i s s2
    obtain rfl := (seq_iff s s2).1 h
    cases r with | str _ x e => cases r2 with | str _ y e2 =>
    have : y = x := by
      have : y.data.toList.map UInt8.toNat = x.data.toList.map UInt8.toNat := by rw [e, e2]
      have h2 := (List.map_inj_right (fun a b h => UInt8.toNat_inj.1 h)).1 this
      exact ByteArray.ext (Array.toList_inj.1 h2)
    subst this
    simp only [Instr.sameBits]
    rw [beq_toListBytes]; simp

theorem upd_find {E : Env} {k v : V} {k' v' : Value} {d : TypeDesc} (hf : keyFits d k = true) (rk : AR E k k') (rv : AR E v v') {es : List (V × V)} {ents : List MapEntry} (rp : All₂ (EntR E) es ents) : ∀ {es' : List (V × V)} (i : Nat), updV k v es = some es' →
    (Instr.findNow d k' ents i = some none ∧ ∀ born, All₂ (EntR E) es' (ents ++ [{ key := k', val := v', born }])) ∨
    ∃ j u, Instr.findNow d k' ents i = some (some (i + j, u)) ∧ (∃ e, ents[j]? = some e ∧ Instr.sameBits 10000 e.key k' = true) ∧ All₂ (EntR E) es' (ents.modify j fun e => { e with key := k', val := v' }) := by
  induction rp with
  | nil => intro es' i h; simp [updV] at h; subst h; exact .inl ⟨rfl, fun born => .cons ⟨rk, rv⟩ .nil⟩
  | @cons e m es ents hr t ih =>
    intro es' i h
    simp only [updV] at h
    split at h
    · rename_i hq
      cases h
      have := keyEq_sound' hf hq rk hr.1
      exact .inr ⟨0, m.val, by simp [Instr.findNow, this], ⟨m, rfl, sameBits_of hq rk hr.1⟩, by simpa [List.modify] using All₂.cons ⟨rk, rv⟩ t⟩
    · rename_i hq
      have := keyEq_sound' hf hq rk hr.1
      cases hu : updV k v es with
      | none => rw [hu] at h; cases h
      | some l =>
        rw [hu] at h; cases h
        rcases ih (i + 1) hu with ⟨h1, h2⟩ | ⟨j, u, h1, ⟨e', h2, h3⟩, h4⟩
        · exact .inl ⟨by simp [Instr.findNow, this, h1], fun born => .cons hr (h2 born)⟩
        · refine .inr ⟨j + 1, u, by simp [Instr.findNow, this, h1]; omega, ⟨e', by simpa using h2, h3⟩, ?_⟩
          simpa [List.modify] using All₂.cons hr h4
    · cases h

theorem mapUpdate_sound {E : Env} {h : H} {w0 w : World} (m : MR E h w0 w) {t kt et : TypeId} {b : Nat} {k v : V} {m' k' v' : Value} {es es' : List (V × V)} (hu : P.underlying t = some (.map kt et)) (hk : keyOk P kt k = true) (hb : h.get b = some (.map es)) (hes : updV k v es = some es')
    (rm : AR E (.map b) m') (rk : AR E k k') (rv : AR E v v') :
    ∃ w', (Instr.mapUpdate t m' k' v').run P w = .ok () w' ∧ MR E (h.put b (.map es')) w0 w' ∧ Ext E h E (h.put b (.map es')) := by
  obtain ⟨d, hd, hf⟩ := keyOk_fits hk
  cases rm with
  | map _ p hE =>
    obtain ⟨ents, clock, h1, h2⟩ := m.obj b _ p hb hE
    have hck := run_checkKey hd hf rk w false
    rcases upd_find hf rk rv h2 0 hes with ⟨g1, g2⟩ | ⟨j, u, g1, ⟨e, g2, g3⟩, g4⟩
    · have hfk : (Instr.findKey kt k' ents.toList).run P w = .ok none w := by simp [Instr.findKey, run_underlying hd, g1]
      obtain ⟨q1, q2⟩ := map_put m (ents' := ents.push { key := k', val := v', born := clock }) (clock' := clock + 1) hb hE h1 (by simpa using g2 clock)
      refine ⟨_, ?_, q1, q2⟩
      simp [Instr.mapUpdate, run_underlying hu, getObj_map h1, hck, hfk, setObj_map h1]
    · have hfk : (Instr.findKey kt k' ents.toList).run P w = .ok (some (0 + j, u)) w := by simp [Instr.findKey, run_underlying hd, g1]
      rw [Nat.zero_add] at hfk
      have he : ents[j]? = some e := by simpa using g2
      obtain ⟨q1, q2⟩ := map_put m (ents' := ents.modify j fun e => { e with key := k', val := v' }) (clock' := clock) hb hE h1 (by simpa using g4)
      refine ⟨_, ?_, q1, q2⟩
      simp [Instr.mapUpdate, run_underlying hu, getObj_map h1, hck, hfk, he, Instr.keyThatStays, g3, setObj_map h1]

theorem del_find {E : Env} {k : V} {k' : Value} {d : TypeDesc} (hf : keyFits d k = true) (rk : AR E k k') {es : List (V × V)} {ents : List MapEntry} (rp : All₂ (EntR E) es ents) : ∀ {es' : List (V × V)} (i : Nat), delV k es = some es' →
    (Instr.findNow d k' ents i = some none ∧ All₂ (EntR E) es' ents) ∨
    ∃ j u, Instr.findNow d k' ents i = some (some (i + j, u)) ∧ All₂ (EntR E) es' (ents.eraseIdx j) := by
  induction rp with
  | nil => intro es' i h; simp [delV] at h; subst h; exact .inl ⟨rfl, .nil⟩
  | @cons e m es ents hr t ih =>
    intro es' i h
    simp only [delV] at h
    split at h
    · rename_i hq
      cases h
      have := keyEq_sound' hf hq rk hr.1
      exact .inr ⟨0, m.val, by simp [Instr.findNow, this], by simpa using t⟩
    · rename_i hq
      have := keyEq_sound' hf hq rk hr.1
      cases hu : delV k es with
      | none => rw [hu] at h; cases h
      | some l =>
        rw [hu] at h; cases h
        rcases ih (i + 1) hu with ⟨h1, h2⟩ | ⟨j, u, h1, h4⟩
        · exact .inl ⟨by simp [Instr.findNow, this, h1], .cons hr h2⟩
        · refine .inr ⟨j + 1, u, by simp [Instr.findNow, this, h1]; omega, ?_⟩
          simpa using All₂.cons hr h4
    · cases h

theorem delete_sound {E : Env} {h : H} {w0 w : World} (m : MR E h w0 w) {argTypes : Array TypeId} {ty kt et : TypeId} {b : Nat} {k : V} {m' k' : Value} {es es' : List (V × V)} (hu : (argTypes[0]?).bind P.underlying = some (.map kt et)) (hk : keyOk P kt k = true) (hb : h.get b = some (.map es)) (hes : delV k es = some es')
    (rm : AR E (.map b) m') (rk : AR E k k') :
    ∃ w', (Builtin.delete_ argTypes ty #[m', k']).run P w = .ok undef w' ∧ MR E (h.put b (.map es')) w0 w' ∧ Ext E h E (h.put b (.map es')) := by
  obtain ⟨d, hd, hf⟩ := keyOk_fits hk
  obtain ⟨t, ht, hu'⟩ : ∃ t, argTypes[0]? = some t ∧ P.underlying t = some (.map kt et) := by
    cases hx : argTypes[0]? with
    | none => rw [hx] at hu; cases hu
    | some t => rw [hx] at hu; exact ⟨t, rfl, hu⟩
  cases rm with
  | map _ p hE =>
    obtain ⟨ents, clock, h1, h2⟩ := m.obj b _ p hb hE
    have hck := run_checkKey hd hf rk w ents.isEmpty
    rcases del_find hf rk h2 0 hes with ⟨g1, g2⟩ | ⟨j, u, g1, g4⟩
    · have hfk : (Instr.findKey kt k' ents.toList).run P w = .ok none w := by simp [Instr.findKey, run_underlying hd, g1]
      obtain ⟨q1, q2⟩ := map_put m (ents' := ents) (clock' := clock) hb hE h1 g2
      refine ⟨_, ?_, q1, q2⟩
      simp [Builtin.delete_, ht, run_underlying hu', getObj_map h1, hck, hfk, setObj_map h1]; rfl
    · have hfk : (Instr.findKey kt k' ents.toList).run P w = .ok (some (0 + j, u)) w := by simp [Instr.findKey, run_underlying hd, g1]
      rw [Nat.zero_add] at hfk
      obtain ⟨q1, q2⟩ := map_put m (ents' := ents.eraseIdxIfInBounds j) (clock' := clock) hb hE h1 (by simpa using g4)
      refine ⟨_, ?_, q1, q2⟩
      simp [Builtin.delete_, ht, run_underlying hu', getObj_map h1, hck, hfk, setObj_map h1]; rfl

theorem clear_sound {E : Env} {h h' : H} {w0 w : World} (m : MR E h w0 w) {argTypes : Array TypeId} {ty el : TypeId} {b off n : Nat} {c : Cp} {z : V} {x' : Value} (hu : (argTypes[0]?).bind P.underlying = some (.slice el)) (hn : n ≠ 0) (hz : zeroT P el = some z)
    (hw : h.wrN b off (zeros z.cells n) = some h') (rx : AR E (.sl b off n c) x') :
    ∃ w', (Builtin.clear_ argTypes ty #[x']).run P w = .ok undef w' ∧ MR E h' w0 w' ∧ Ext E h E h' := by
  obtain ⟨t, ht, hu'⟩ : ∃ t, argTypes[0]? = some t ∧ P.underlying t = some (.slice el) := by
    cases hx : argTypes[0]? with
    | none => rw [hx] at hu; cases hu
    | some t => rw [hx] at hu; exact ⟨t, rfl, hu⟩
  obtain ⟨z', hz', rz⟩ := run_zeroT E hz w
  have rzz := zeros_sound rz.cells n z.cells.length rfl
  have hzl : z'.cells.size = z.cells.length := by have := rz.cells.length; simp at this; omega
  obtain ⟨k, rfl⟩ : ∃ k, n = k + 1 := ⟨n - 1, by omega⟩
  have go : ∀ (p : Place) (cc : Nat), E b = some p → ∃ w', (Builtin.clear_ argTypes ty #[.slice (some ⟨p.blk, p.off + off, none⟩) (k + 1) cc]).run P w = .ok undef w' ∧ MR E h' w0 w' ∧ Ext E h E h' := by
    intro p cc hE
    obtain ⟨q1, q2, q3⟩ := wrN_sound (P := P) m hw hE rzz
    refine ⟨_, ?_, q2, q3⟩
    rw [← hzl] at q1
    simp only [Builtin.clear_, ht]
    simp only [List.getElem?_toArray, List.getElem?_cons_zero, Sem.run_bind, run_underlying hu', Result.andThen_ok, hz', Builtin.zeroCells, q1, Sem.run_pure]
    rw [hzl]; rfl
  cases rx with
  | sl _ _ _ p _ hE _ => exact go p _ hE
  | slo _ _ _ z p _ hE _ _ => exact go p _ hE

theorem clear_none {argTypes : Array TypeId} {ty el : TypeId} {E : Env} {x : V} {x' : Value} (hu : (argTypes[0]?).bind P.underlying = some (.slice el)) (hx : x = .nils ∨ ∃ b o c, x = .sl b o 0 c) (rx : AR E x x') (w : World) :
    (Builtin.clear_ argTypes ty #[x']).run P w = .ok undef w := by
  obtain ⟨t, ht, hu'⟩ : ∃ t, argTypes[0]? = some t ∧ P.underlying t = some (.slice el) := by
    cases hx : argTypes[0]? with
    | none => rw [hx] at hu; cases hu
    | some t => rw [hx] at hu; exact ⟨t, rfl, hu⟩
  rcases hx with rfl | ⟨b, o, c, rfl⟩
  · cases rx; simp [Builtin.clear_, ht, run_underlying hu']; rfl
  · cases rx <;> simp [Builtin.clear_, ht, run_underlying hu'] <;> rfl
end
end Go.AM
