/- The machine of values: what operations do that change memory. -/
import Derived.Test.YtdmpeinbbcjamaaVmAlloc
set_option linter.unusedVariables false
set_option linter.unusedSimpArgs false
namespace Go.VM
open Go.RowKit
variable {P : Program}

/-- an operation that yields a value and leaves memory so. -/
def Does (P : Program) (gl : List Nat) (nt : Nat) (tm : TM) (h : H) (o : Oper) (tv : TV) (h' : H) : Prop :=
  ∀ (E : Env) (F : Fx) (w0 w : World) (tmps : Array Value), MR E F h w0 w → GL E gl → TR E F.loc nt tm tmps →
    ∃ E' F' w' n v', (execOp (evT tmps) o).run P w = .ok n w' ∧ (n = .value v' ∨ n = .skip ∧ v' = undef) ∧ Ext E h E' h' ∧ F'.loc = F.loc ∧ F'.prot = F.prot ∧ MR E' F' h' w0 w' ∧ TVR E' F'.loc tv v'

section
variable {gl : List Nat} {nt : Nat} {tm : TM} {h : H}

theorem Light.does {o : Oper} {tv : TV} (l : Light P gl nt tm h o tv) : Does P gl nt tm h o tv h := by
  intro E F w0 w tmps m hg r
  obtain ⟨v', h1, h2⟩ := l E F w0 w tmps m hg r
  exact ⟨E, F, w, _, v', h1, .inl rfl, Ext.refl _ _, rfl, rfl, m, h2⟩

theorem AllocO.does {o : Oper} {v : V} {ob : Obj} (a : AllocO P gl nt tm o h.nxt ob v) (hnt : ∀ n, ob ≠ .tok n) : Does P gl nt tm h o (.v v) (h.new ob) := by
  intro E F w0 w tmps m hg r
  obtain ⟨v', cob, n, p, h1, h2, h3, h4⟩ := a E F.loc w tmps hg r
  obtain ⟨m1, x1, hEb, hget⟩ := m.ghost ob (fun n e => absurd e (hnt n))
  have hle := updE_le (p := p) hEb
  have m2 := (m1.drawn n).place hget hEb m.glo hnt cob h2 (h3.mono hle)
  refine ⟨updE E h.nxt p, { F with own := updO F.own w.heap.size (.ob h.nxt) }, _, _, v', h1, .inl rfl, ⟨hle, fun k hk => ?_, x1.nxt, fun k o hk he ho hn => x1.ghost k o hk he ho hn⟩, rfl, rfl, m2, .v _ _ (h4 _ (by simp [updE]))⟩
  simp only [updE]; rw [if_neg (by omega)]

theorem AllocF.does {o : Oper} {v : V} (a : AllocF P gl nt tm o v) : Does P gl nt tm h o (.v v) h := by
  intro E F w0 w tmps m hg r
  obtain ⟨v', c, el, q, n, cnt, h1, h2⟩ := a E F.loc w tmps hg r
  have md := m.drawn n
  have hle := md.updZ_le cnt c
  have m2 := md.frozen cnt c el q .fz (.inl rfl)
  refine ⟨_, { F with own := updO F.own w.heap.size .fz }, _, _, v', h1, .inl rfl, ⟨hle, fun _ _ => rfl, Nat.le_refl _, fun _ _ _ _ h _ => h⟩, rfl, rfl, m2, .v _ _ (h2 _ hle fun i x hi hx => ?_)⟩
  simp only [updZ, if_true]; rw [if_pos hi]; exact hx

/-! ### stores -/
/-- what a store leaves. -/
def ras (gl : List Nat) (tm : TM) (h : H) : RO → Option H
  | .st a x n => match rvt gl tm a, rv gl tm x with
    | some a, some v => match decide (v.cells.length = n) && v.cells.all V.isCell with
      | true => match a with
        | .v (.ptr b o) => match h.ob b, Nat.ble glim b with
          | some (.cells opn cs), true => (putC cs o v.cells).map fun cs => h.put b (.cells opn cs)
          | _, _ => none
        | .l d o => match lg h.lc d with
          | some cs => (putC cs o v.cells).map fun cs => { h with lc := (d, cs) :: h.lc }
          | none => none
        | _ => none
      | false => none
    | _, _ => none
  | _ => none

theorem run_store {t : TypeId} {a x : Operand} {ρ : Operand → Value} {n : Nat} {A : Addr} {dst : Option Tmp} {ty : TypeId} {pos : String} {after : Array Edge} {guard : Option (Nat × Bool)} {w w' : World}
    (hn : szT P t = some n) (ha : ρ a = .pointer (some A)) (hs : (ρ x).cells.size = n) (h1 : (storeCells A (ρ x).cells.toList).run P w = .ok () w') : (execOp ρ ⟨dst, .store t a x, ty, pos, after, guard⟩).run P w = .ok .skip w' := by
  have e1 : Sem.run P (Instr.storeAt t (ρ a) (ρ x)) w = .ok () w' := by
    rw [ha]
    simp only [Instr.storeAt, Instr.sureAddr, Sem.run_bind, Sem.run_pure, Result.andThen_ok, storeVar, run_szT hn, hs, ne_eq, not_true, if_false, h1]
  simp only [execOp, Sem.run_bind, e1, Result.andThen_ok, Sem.run_pure]

theorem ras_kind {ro : RO} {h' : H} (hs : ras gl tm h ro = some h') : kindRO ro = 2 := by
  unfold ras at hs
  split at hs <;> first | rfl | cases hs

theorem ras_does {o : Oper} {ro : RO} {h' : H} (ho : rop P o = some ro) (hs : ras gl tm h ro = some h') : Does P gl nt tm h o (.v undefV) h' := by
  obtain ⟨dst, op, ty, pos, after, guard⟩ := o
  cases op with
  | store t a x =>
    simp only [rop] at ho
    split at ho
    · rename_i a1 x1 n ha hx hn
      cases ho
      intro E F w0 w tmps m hg r
      simp only [ras] at hs
      split at hs
      · rename_i av v hav hv
        split at hs
        · rename_i hc
          simp only [Bool.and_eq_true, decide_eq_true_eq] at hc
          obtain ⟨hlen, hall⟩ := hc
          have rxx := (rv_sound hg r hx hv).cells
          have hsz : (evT tmps x).cells.size = n := by rw [← hlen, rxx.length]; simp
          have raa := rvt_sound hg r ha hav
          split at hs
          · rename_i b o
            split at hs
            · rename_i opn cs hb hgb
              have hgb := Nat.le_of_ble_eq_true hgb
              cases hp : putC cs o v.cells with
              | none => rw [hp] at hs; cases hs
              | some cs' =>
                rw [hp] at hs; cases hs
                cases raa with
                | v _ _ raa =>
                generalize hgen : evT tmps a = A at raa
                cases raa with
                | ptr _ _ p hE =>
                  obtain ⟨h1, h2⟩ := CellsR.write (P := P) (m.obj b _ p hb hE) hp hall rxx
                  obtain ⟨m2, x2⟩ := m.put (new := .cells opn cs') hb hE hgb (by simp) (Turn.setCells _ _ _ _) h2
                  exact ⟨E, F, _, _, undef, run_store hn hgen hsz h1, .inr ⟨rfl, rfl⟩, x2, rfl, rfl, m2, .v _ _ (.tup [] #[] .nil)⟩
            · cases hs
          · rename_i d o
            split at hs
            · rename_i cs hb
              cases hp : putC cs o v.cells with
              | none => rw [hp] at hs; cases hs
              | some cs' =>
                rw [hp] at hs; cases hs
                generalize hgen : evT tmps a = A at raa
                cases raa with
                | l _ _ p hd =>
                  obtain ⟨a1, a2, cs0, a3, a4⟩ := m.loc d p hd
                  rw [hb] at a3; cases a3
                  obtain ⟨h1, h2⟩ := CellsR.write (P := P) a4 hp hall rxx
                  have m2 := m.putLc hd (Turn.setCells _ _ _ _) h2
                  exact ⟨E, F, _, _, undef, run_store hn hgen hsz h1, .inr ⟨rfl, rfl⟩, ⟨Env.le_refl E, fun _ _ => rfl, Nat.le_refl _, fun _ _ _ _ h _ => h⟩, rfl, rfl, m2, .v _ _ (.tup [] #[] .nil)⟩
            · cases hs
          · cases hs
        · cases hs
      · cases hs
    · cases ho
  | call c =>
    exfalso
    have h1 := rop_kind ho
    rw [ras_kind hs] at h1
    obtain ⟨callee, args, argTypes⟩ := c
    cases callee with
    | builtin bi => cases bi <;> simp [kindOp] at h1
    | _ => simp [kindOp] at h1
  | _ =>
    exfalso
    have h1 := rop_kind ho
    rw [ras_kind hs] at h1
    simp [kindOp] at h1

/-! ### maps -/
/-- a map's entries are others. -/
theorem map_put {E : Env} {F : Fx} {w0 w : World} (m : MR E F h w0 w) {b : Nat} {es es' : List (V × V)} {p : Place} {ents ents' : Array MapEntry} {clock clock' : Nat} (hb : h.ob b = some (.map es)) (hE : E.ob b = some p)
    (hw : w.heap[p.blk]? = some (.map ents clock)) (hr : All₂ (EntR E) es' ents'.toList) :
    MR E F (h.put b (.map es')) w0 { w with heap := w.heap.setIfInBounds p.blk (.map ents' clock') } ∧ Ext E h E (h.put b (.map es')) := by
  have hlt : p.blk < w.heap.size := m.lt hb hE
  have hg : glim ≤ b := by
    rcases Nat.lt_or_ge b glim with g | g
    · obtain ⟨op, cs, e⟩ := m.glb b _ g hb; cases e
    · exact g
  exact m.put hb hE hg (by simp) (Turn.set _ _ _) ⟨ents', clock', by simp [hlt], hr⟩

theorem sameBits_of {E : Env} {k k2 : V} {k' k2' : Value} (h : keyEq k k2 = some true) (r : AR E k k') (r2 : AR E k2 k2') : Instr.sameBits 10000 k2' k' = true := by
  cases k <;> cases k2 <;> simp [keyEq] at h
  · cases r; cases r2; simp [Instr.sameBits, h]
  · obtain ⟨rfl, rfl⟩ := h; cases r; cases r2; simp [Instr.sameBits]
  · rename_i s s2
    subst h
    cases r with | str _ x e => cases r2 with | str _ y e2 =>
    have : y = x := by
      have : y.data.toList.map UInt8.toNat = x.data.toList.map UInt8.toNat := by rw [e, e2]
      have h2 := (List.map_inj_right (fun a b h => UInt8.toNat_inj.1 h)).1 this
      exact ByteArray.ext (Array.toList_inj.1 h2)
    subst this
    simp only [Instr.sameBits]
    rw [beq_toListBytes]; simp

theorem upd_find {E : Env} {k v : V} {k' v' : Value} {d : ED} {td : TypeDesc} (hd : (d = .int ∧ ∃ k, td = .int k) ∨ (d = .str ∧ td = .string) ∨ (d = .bool ∧ td = .bool)) (hf : keyFits d k = true) (rk : AR E k k') (rv : AR E v v') {es : List (V × V)} {ents : List MapEntry} (rp : All₂ (EntR E) es ents) : ∀ {es' : List (V × V)} (i : Nat), updV k v es = some es' →
    (Instr.findNow td k' ents i = some none ∧ ∀ born, All₂ (EntR E) es' (ents ++ [{ key := k', val := v', born }])) ∨
    ∃ j u, Instr.findNow td k' ents i = some (some (i + j, u)) ∧ (∃ e, ents[j]? = some e ∧ Instr.sameBits 10000 e.key k' = true) ∧ All₂ (EntR E) es' (ents.modify j fun e => { e with key := k', val := v' }) := by
  induction rp with
  | nil => intro es' i h; simp [updV] at h; subst h; exact .inl ⟨rfl, fun born => .cons ⟨rk, rv⟩ .nil⟩
  | @cons e m es ents hr t ih =>
    intro es' i h
    simp only [updV] at h
    split at h
    · rename_i hq
      cases h
      have := keyEq_sound hd hf hq rk hr.1
      exact .inr ⟨0, m.val, by simp [Instr.findNow, this], ⟨m, rfl, sameBits_of hq rk hr.1⟩, by simpa [List.modify] using All₂.cons ⟨rk, rv⟩ t⟩
    · rename_i hq
      have := keyEq_sound hd hf hq rk hr.1
      cases hu : updV k v es with
      | none => rw [hu] at h; cases h
      | some l =>
        rw [hu] at h; cases h
        rcases ih (i + 1) hu with ⟨h1, h2⟩ | ⟨j, u, h1, ⟨e', h2, h3⟩, h4⟩
        · exact .inl ⟨by simp [Instr.findNow, this, h1], fun born => .cons hr (h2 born)⟩
        · refine .inr ⟨j + 1, u, by simp [Instr.findNow, this, h1]; omega, ⟨e', by simpa using h2, h3⟩, ?_⟩
          simpa [List.modify] using All₂.cons hr h4
    · cases h

theorem mapUpdate_sound {E : Env} {F : Fx} {w0 w : World} (m : MR E F h w0 w) {t kt et : TypeId} {b : Nat} {k v : V} {m' k' v' : Value} {d : ED} {es es' : List (V × V)} (hu : P.underlying t = some (.map kt et)) (hk : keyD P kt = some d) (hf : keyFits d k = true) (hb : h.ob b = some (.map es)) (hes : updV k v es = some es')
    (rm : AR E (.map b) m') (rk : AR E k k') (rv : AR E v v') :
    ∃ w', (Instr.mapUpdate t m' k' v').run P w = .ok () w' ∧ MR E F (h.put b (.map es')) w0 w' ∧ Ext E h E (h.put b (.map es')) := by
  obtain ⟨td, hd, hdd⟩ := keyD_spec hk
  cases rm with
  | map _ p hE =>
    obtain ⟨ents, clock, h1, h2⟩ := m.obj b _ p hb hE
    have hck := run_checkKey hd hdd hf rk w false
    rcases upd_find hdd hf rk rv h2 0 hes with ⟨g1, g2⟩ | ⟨j, u, g1, ⟨e, g2, g3⟩, g4⟩
    · have hfk : (Instr.findKey kt k' ents.toList).run P w = .ok none w := by simp [Instr.findKey, run_underlying hd, g1]
      obtain ⟨q1, q2⟩ := map_put m (ents' := ents.push { key := k', val := v', born := clock }) (clock' := clock + 1) hb hE h1 (by simpa using g2 clock)
      refine ⟨_, ?_, q1, q2⟩
      simp [Instr.mapUpdate, run_underlying hu, getObj_map h1, hck, hfk, setObj_map h1]
    · have hfk : (Instr.findKey kt k' ents.toList).run P w = .ok (some (0 + j, u)) w := by simp [Instr.findKey, run_underlying hd, g1]
      rw [Nat.zero_add] at hfk
      have he : ents[j]? = some e := by simpa using g2
      obtain ⟨q1, q2⟩ := map_put m (ents' := ents.modify j fun e => { e with key := k', val := v' }) (clock' := clock) hb hE h1 (by simpa using g4)
      refine ⟨_, ?_, q1, q2⟩
      simp [Instr.mapUpdate, run_underlying hu, getObj_map h1, hck, hfk, he, Instr.keyThatStays, g3, setObj_map h1]

theorem del_find {E : Env} {k : V} {k' : Value} {d : ED} {td : TypeDesc} (hd : (d = .int ∧ ∃ k, td = .int k) ∨ (d = .str ∧ td = .string) ∨ (d = .bool ∧ td = .bool)) (hf : keyFits d k = true) (rk : AR E k k') {es : List (V × V)} {ents : List MapEntry} (rp : All₂ (EntR E) es ents) : ∀ {es' : List (V × V)} (i : Nat), delV k es = some es' →
    (Instr.findNow td k' ents i = some none ∧ All₂ (EntR E) es' ents) ∨
    ∃ j u, Instr.findNow td k' ents i = some (some (i + j, u)) ∧ All₂ (EntR E) es' (ents.eraseIdx j) := by
  induction rp with
  | nil => intro es' i h; simp [delV] at h; subst h; exact .inl ⟨rfl, .nil⟩
  | @cons e m es ents hr t ih =>
    intro es' i h
    simp only [delV] at h
    split at h
    · rename_i hq
      cases h
      have := keyEq_sound hd hf hq rk hr.1
      exact .inr ⟨0, m.val, by simp [Instr.findNow, this], by simpa using t⟩
    · rename_i hq
      have := keyEq_sound hd hf hq rk hr.1
      cases hu : delV k es with
      | none => rw [hu] at h; cases h
      | some l =>
        rw [hu] at h; cases h
        rcases ih (i + 1) hu with ⟨h1, h2⟩ | ⟨j, u, h1, h4⟩
        · exact .inl ⟨by simp [Instr.findNow, this, h1], .cons hr h2⟩
        · refine .inr ⟨j + 1, u, by simp [Instr.findNow, this, h1]; omega, ?_⟩
          simpa using All₂.cons hr h4
    · cases h

theorem delete_sound {E : Env} {F : Fx} {w0 w : World} (m : MR E F h w0 w) {argTypes : Array TypeId} {ty kt et : TypeId} {b : Nat} {k : V} {m' k' : Value} {d : ED} {es es' : List (V × V)} (hu : (argTypes[0]?).bind P.underlying = some (.map kt et)) (hk : keyD P kt = some d) (hf : keyFits d k = true) (hb : h.ob b = some (.map es)) (hes : delV k es = some es')
    (rm : AR E (.map b) m') (rk : AR E k k') :
    ∃ w', (Builtin.delete_ argTypes ty #[m', k']).run P w = .ok undef w' ∧ MR E F (h.put b (.map es')) w0 w' ∧ Ext E h E (h.put b (.map es')) := by
  obtain ⟨td, hd, hdd⟩ := keyD_spec hk
  obtain ⟨t, ht, hu'⟩ : ∃ t, argTypes[0]? = some t ∧ P.underlying t = some (.map kt et) := by
    cases hx : argTypes[0]? with
    | none => rw [hx] at hu; cases hu
    | some t => rw [hx] at hu; exact ⟨t, rfl, hu⟩
  cases rm with
  | map _ p hE =>
    obtain ⟨ents, clock, h1, h2⟩ := m.obj b _ p hb hE
    have hck := run_checkKey hd hdd hf rk w ents.isEmpty
    rcases del_find hdd hf rk h2 0 hes with ⟨g1, g2⟩ | ⟨j, u, g1, g4⟩
    · have hfk : (Instr.findKey kt k' ents.toList).run P w = .ok none w := by simp [Instr.findKey, run_underlying hd, g1]
      obtain ⟨q1, q2⟩ := map_put m (ents' := ents) (clock' := clock) hb hE h1 g2
      refine ⟨_, ?_, q1, q2⟩
      simp [Builtin.delete_, ht, run_underlying hu', getObj_map h1, hck, hfk, setObj_map h1]; rfl
    · have hfk : (Instr.findKey kt k' ents.toList).run P w = .ok (some (0 + j, u)) w := by simp [Instr.findKey, run_underlying hd, g1]
      rw [Nat.zero_add] at hfk
      obtain ⟨q1, q2⟩ := map_put m (ents' := ents.eraseIdxIfInBounds j) (clock' := clock) hb hE h1 (by simpa using g4)
      refine ⟨_, ?_, q1, q2⟩
      simp [Builtin.delete_, ht, run_underlying hu', getObj_map h1, hck, hfk, setObj_map h1]; rfl

theorem clear_sound {E : Env} {F : Fx} {w0 w : World} (m : MR E F h w0 w) {argTypes : Array TypeId} {ty el : TypeId} {b off n : Nat} {c : Cp} {z : V} {cs cs' : List V} {opn : Bool} {x' : Value} (hu : (argTypes[0]?).bind P.underlying = some (.slice el)) (hn : n ≠ 0) (hz : zeroT P el = some z) (hzc : z.cells.all V.isCell = true)
    (hb : h.ob b = some (.cells opn cs)) (hgb : glim ≤ b) (hw : putC cs off (zeros z.cells n) = some cs') (rx : AR E (.sl b off n c) x') :
    ∃ w', (Builtin.clear_ argTypes ty #[x']).run P w = .ok undef w' ∧ MR E F (h.put b (.cells opn cs')) w0 w' ∧ Ext E h E (h.put b (.cells opn cs')) := by
  obtain ⟨t, ht, hu'⟩ : ∃ t, argTypes[0]? = some t ∧ P.underlying t = some (.slice el) := by
    cases hx : argTypes[0]? with
    | none => rw [hx] at hu; cases hu
    | some t => rw [hx] at hu; exact ⟨t, rfl, hu⟩
  obtain ⟨z', hz', rz⟩ := run_zeroT E hz w
  have rzz := zeros_sound rz.cells n z.cells.length rfl
  have hzl : z'.cells.size = z.cells.length := by have := rz.cells.length; simp at this; omega
  obtain ⟨k, rfl⟩ : ∃ k, n = k + 1 := ⟨n - 1, by omega⟩
  have go : ∀ (p : Place) (cc : Nat), E.ob b = some p → ∃ w', (Builtin.clear_ argTypes ty #[.slice (some ⟨p.blk, p.off + off, none⟩) (k + 1) cc]).run P w = .ok undef w' ∧ MR E F (h.put b (.cells opn cs')) w0 w' ∧ Ext E h E (h.put b (.cells opn cs')) := by
    intro p cc hE
    obtain ⟨q1, q2⟩ := CellsR.write (P := P) (m.obj b _ p hb hE) hw (zeros_all hzc _) rzz
    obtain ⟨m2, x2⟩ := m.put (new := .cells opn cs') hb hE hgb (by simp) (Turn.setCells _ _ _ _) q2
    refine ⟨_, ?_, m2, x2⟩
    rw [← hzl] at q1
    simp only [Builtin.clear_, ht]
    simp only [List.getElem?_toArray, List.getElem?_cons_zero, Sem.run_bind, run_underlying hu', Result.andThen_ok, hz', Builtin.zeroCells, q1, Sem.run_pure]
    rw [hzl]; rfl
  cases rx with
  | sl _ _ _ p _ hE _ => exact go p _ hE
  | slo _ _ _ z p _ hE _ _ => exact go p _ hE

theorem clear_none {argTypes : Array TypeId} {ty el : TypeId} {E : Env} {x : V} {x' : Value} (hu : (argTypes[0]?).bind P.underlying = some (.slice el)) (hx : (∃ c, x = .lst [] c) ∨ ∃ b o c, x = .sl b o 0 c) (rx : AR E x x') (w : World) :
    (Builtin.clear_ argTypes ty #[x']).run P w = .ok undef w := by
  obtain ⟨t, ht, hu'⟩ : ∃ t, argTypes[0]? = some t ∧ P.underlying t = some (.slice el) := by
    cases hx : argTypes[0]? with
    | none => rw [hx] at hu; cases hu
    | some t => rw [hx] at hu; exact ⟨t, rfl, hu⟩
  rcases hx with ⟨c, rfl⟩ | ⟨b, o, c, rfl⟩
  · cases rx with
    | lst0 _ a cap _ => cases a <;> simp [Builtin.clear_, ht, run_underlying hu'] <;> rfl
  · cases rx <;> simp [Builtin.clear_, ht, run_underlying hu'] <;> rfl

/-- what becomes of memory by a map's change, a clearing. -/
def rac (gl : List Nat) (tm : TM) (h : H) : RO → Option H
  | .mu m k x d => match rv gl tm m, rv gl tm k, rv gl tm x with
    | some (.map r), some k, some v => match keyFits d k, h.ob r with
      | true, some (.map es) => (updV k v es).map fun es => h.put r (.map es)
      | _, _ => none
    | _, _, _ => none
  | .del m k d => match rv gl tm m, rv gl tm k with
    | some (.map r), some k => match keyFits d k, h.ob r with
      | true, some (.map es) => (delV k es).map fun es => h.put r (.map es)
      | _, _ => none
    | _, _ => none
  | .clr x z => match rv gl tm x with
    | some (.lst [] _) => some h
    | some (.sl b off n _) => match Nat.beq n 0 with
      | true => some h
      | false => match h.ob b, Nat.ble glim b && z.all V.isCell with
        | some (.cells opn cs), true => (putC cs off (zeros z n)).map fun cs => h.put b (.cells opn cs)
        | _, _ => none
    | _ => none
  | _ => none

theorem rac_kind {ro : RO} {h' : H} (hs : rac gl tm h ro = some h') : kindRO ro = 3 := by
  unfold rac at hs
  split at hs <;> first | rfl | cases hs

theorem rac_does {o : Oper} {ro : RO} {h' : H} (ho : rop P o = some ro) (hs : rac gl tm h ro = some h') : Does P gl nt tm h o (.v undefV) h' := by
  obtain ⟨dst, op, ty, pos, after, guard⟩ := o
  have mu : ∀ t m0 k x, (op = .mapUpdate t m0 k x ∨ op = .insert t m0 k x) → Does P gl nt tm h ⟨dst, op, ty, pos, after, guard⟩ (.v undefV) h' := by
    intro t m0 k x hop
    have ho' : (match P.underlying t, rx m0, rx k, rx x with
      | some (.map kt _), some m, some k, some x => (keyD P kt).map (RO.mu m k x)
      | _, _, _, _ => none) = some ro := by rcases hop with rfl | rfl <;> exact ho
    split at ho'
    · rename_i kt et m1 k1 x1 hu hm hk hx
      cases hkd : keyD P kt with
      | none => rw [hkd] at ho'; cases ho'
      | some d =>
        rw [hkd] at ho'; cases ho'
        intro E F w0 w tmps m hg r
        simp only [rac] at hs
        split at hs
        · rename_i b kv v hmv hkv hxv
          split at hs
          · rename_i es hf hb
            cases he : updV kv v es with
            | none => rw [he] at hs; cases hs
            | some es' =>
              rw [he] at hs; cases hs
              obtain ⟨w', h1, h2, h3⟩ := mapUpdate_sound m hu hkd hf hb he (rv_sound hg r hm hmv) (rv_sound hg r hk hkv) (rv_sound hg r hx hxv)
              refine ⟨E, F, w', _, undef, ?_, .inr ⟨rfl, rfl⟩, h3, rfl, rfl, h2, .v _ _ (.tup [] #[] .nil)⟩
              rcases hop with rfl | rfl <;> simp [execOp, h1]
          · cases hs
        · cases hs
    · cases ho'
  cases op with
  | mapUpdate t m0 k x => exact mu t m0 k x (.inl rfl)
  | insert t m0 k x => exact mu t m0 k x (.inr rfl)
  | call c =>
    obtain ⟨callee, args, argTypes⟩ := c
    cases callee with
    | value f => simp only [rop] at ho; split at ho <;> cases ho; simp [rac] at hs
    | invoke f n => simp [rop] at ho
    | builtin bi =>
      simp only [rop] at ho
      have one : ∀ {E : Env} {L : Nat → Option Place} {tmps : Array Value} (hg : GL E gl) (r : TR E L nt tm tmps) {x : RX} {v0 : V}, rxs args.toList = some [x] → rv gl tm x = some v0 → ∃ v0', args.map (evT tmps) = #[v0'] ∧ AR E v0 v0' := by
        intro E L tmps hg r x v0 h1 h2
        have := rvs_sound hg r h1 (show rvs gl tm [x] = some [v0] by simp [rvs, h2])
        generalize hq : args.toList.map (evT tmps) = l at this
        cases this with | cons _ v' _ _ h1 t => cases t; exact ⟨v', by apply Array.toList_inj.1; simpa using hq, h1⟩
      have two : ∀ {E : Env} {L : Nat → Option Place} {tmps : Array Value} (hg : GL E gl) (r : TR E L nt tm tmps) {x y : RX} {v0 v1 : V}, rxs args.toList = some [x, y] → rv gl tm x = some v0 → rv gl tm y = some v1 → ∃ a b, args.map (evT tmps) = #[a, b] ∧ AR E v0 a ∧ AR E v1 b := by
        intro E L tmps hg r x y v0 v1 h1 h2 h3
        have := rvs_sound hg r h1 (show rvs gl tm [x, y] = some [v0, v1] by simp [rvs, h2, h3])
        generalize hq : args.toList.map (evT tmps) = l at this
        cases this with | cons _ v' _ _ h1 t => cases t with | cons _ v'' _ _ h2 t => cases t; exact ⟨v', v'', by apply Array.toList_inj.1; simpa using hq, h1, h2⟩
      unfold rbuiltin at ho
      split at ho
      · split at ho <;> cases ho <;> simp [rac] at hs
      · split at ho <;> cases ho; simp [rac] at hs
      · split at ho <;> cases ho; simp [rac] at hs
      · split at ho <;> cases ho; simp [rac] at hs
      · split at ho
        · split at ho
          · split at ho
            · cases ho
            · split at ho
              · split at ho <;> cases ho; simp [rac] at hs
              · cases ho
          · cases ho
        · cases ho
      · split at ho <;> cases ho; simp [rac] at hs
      · split at ho
        · rename_i m1 k1 kt et hxs hu
          cases hkd : keyD P kt with
          | none => rw [hkd] at ho; cases ho
          | some d =>
            rw [hkd] at ho; cases ho
            intro E F w0 w tmps m hg r
            simp only [rac] at hs
            split at hs
            · rename_i b kv hmv hkv
              split at hs
              · rename_i es hf hb
                cases he : delV kv es with
                | none => rw [he] at hs; cases hs
                | some es' =>
                  rw [he] at hs; cases hs
                  obtain ⟨a1, a2, harr, r1, r2⟩ := two hg r hxs hmv hkv
                  obtain ⟨w', h1, h2, h3⟩ := delete_sound m (ty := ty) hu hkd hf hb he r1 r2
                  exact ⟨E, F, w', _, undef, by rw [exec_builtin, harr]; exact val_run h1, .inl rfl, h3, rfl, rfl, h2, .v _ _ (.tup [] #[] .nil)⟩
              · cases hs
            · cases hs
        · cases ho
      · split at ho
        · rename_i x1 el hxs hu
          cases hz : zeroT P el with
          | none => rw [hz] at ho; cases ho
          | some z =>
            rw [hz] at ho; cases ho
            intro E F w0 w tmps m hg r
            simp only [rac] at hs
            split at hs
            · rename_i c hv
              cases hs
              obtain ⟨a1, harr, r1⟩ := one hg r hxs hv
              exact ⟨E, F, w, _, undef, by rw [exec_builtin, harr]; exact val_run (clear_none hu (.inl ⟨_, rfl⟩) r1 w), .inl rfl, Ext.refl _ _, rfl, rfl, m, .v _ _ (.tup [] #[] .nil)⟩
            · rename_i b off n c hv
              obtain ⟨a1, harr, r1⟩ := one hg r hxs hv
              split at hs
              · rename_i hn
                cases hs
                have hn0 := Nat.eq_of_beq_eq_true hn
                exact ⟨E, F, w, _, undef, by rw [exec_builtin, harr]; exact val_run (clear_none hu (.inr ⟨b, off, c, by rw [hn0]⟩) r1 w), .inl rfl, Ext.refl _ _, rfl, rfl, m, .v _ _ (.tup [] #[] .nil)⟩
              · rename_i hn
                split at hs
                · rename_i opn cs hb hc
                  simp only [Bool.and_eq_true] at hc
                  cases hp : putC cs off (zeros z.cells n) with
                  | none => rw [hp] at hs; cases hs
                  | some cs' =>
                    rw [hp] at hs; cases hs
                    obtain ⟨w', h1, h2, h3⟩ := clear_sound m (ty := ty) hu (by rintro rfl; cases hn) hz hc.2 hb (Nat.le_of_ble_eq_true hc.1) hp r1
                    exact ⟨E, F, w', _, undef, by rw [exec_builtin, harr]; exact val_run h1, .inl rfl, h3, rfl, rfl, h2, .v _ _ (.tup [] #[] .nil)⟩
                · cases hs
            · cases hs
        · cases ho
      · cases ho
  | defer c =>
    obtain ⟨callee, args, argTypes⟩ := c
    cases callee with
    | value f => simp only [rop] at ho; split at ho <;> cases ho; simp [rac] at hs
    | invoke f n => simp [rop] at ho
    | builtin b => simp [rop] at ho
  | panic x => simp only [rop, Option.map_eq_some_iff] at ho; obtain ⟨_, _, rfl⟩ := ho; simp [rac] at hs
  | _ =>
    exfalso
    have h1 := rop_kind ho
    rw [rac_kind hs] at h1
    simp [kindOp] at h1
end
end Go.VM
