/- The abstract machine: operations that change nothing, one by one. -/
import Derived.Test.YtaednlggmjlaaaaGreatDoorAmOps2
import Derived.Laws.BytesString
set_option linter.unusedVariables false
set_option linter.unusedSimpArgs false
namespace Go.AM
noncomputable section
open Go.RowKit
variable {P : Program}

theorem extract_bytes (x : ByteArray) (l h : Nat) : (x.extract l h).data.toList.map UInt8.toNat = ((x.data.toList.map UInt8.toNat).drop l).take (h - l) := by
  rw [ByteArray.data_extract, Array.toList_extract]
  simp [List.extract, List.map_take, List.map_drop]

theorem aslice_sound {E : Env} {t : TypeId} {x : V} {lo hi mx : Option V} {x' : Value} {lo' hi' mx' : Option Value} {v : V} (h : aslice P t x lo hi mx = some v)
    (rx : AR E x x') (rl : OptR E lo lo') (rh : OptR E hi hi') (rm : OptR E mx mx') (w : World) : ∃ v', (Instr.sliceAt t x' lo' hi' mx').run P w = .ok v' w ∧ AR E v v' := by
  unfold aslice at h
  split at h
  · rename_i s hu
    cases rx with
    | str _ y e =>
    split at h
    · cases h
    · cases rm
      split at h
      · rename_i l hh hl hhh
        split at h
        · rename_i hc
          cases h
          have hs : y.size = s.length := by rw [← e, List.length_map, Array.length_toList]; rfl
          refine ⟨.string (y.extract l hh), ?_, .str _ _ (by rw [extract_bytes, e])⟩
          rw [← hs] at hhh hc
          have := run_bounds (P := P) w false y.size y.size l hh hl hhh rl rh hc.1 hc.2
          simp [Instr.sliceAt, run_underlying hu, Instr.slice, this]
        · cases h
      · cases h
  · rename_i el hu
    cases rx
    split at h
    · rename_i n hz h0 h1
      cases h
      cases rm
      have := run_bounds (P := P) w true 0 0 0 0 h0 h1 rl rh (Nat.le_refl _) (Nat.le_refl _)
      exact ⟨.slice none 0 0, by simp [Instr.sliceAt, run_underlying hu, Instr.slice, this, run_szT hz], .nils⟩
    · rename_i n mv hz h0 h1
      split at h
      · rename_i hv hm
        cases h
        cases rm with
        | some _ mv' hr =>
          obtain ⟨k, _, rfl⟩ := asIdx_sound hm hr
          have := run_bounds3 (P := P) w 0 0 0 0 0 (k := k) h0 h1 rl rh (by simp) (Nat.le_refl _) (Nat.le_refl _) (Nat.le_refl _)
          refine ⟨.slice none 0 0, ?_, .nils⟩
          simp [Instr.sliceAt, run_underlying hu, Instr.slice, run_szT hz]
          rw [show ((0 : Int)) = ((0 : Nat) : Int) from rfl, this]; simp [run_szT hz]
      · cases h
    · cases h
  · rename_i el b o len cap hu
    split at h
    · cases h
    · rename_i sz hz
      split at h
      · rename_i l hh hl hhh
        split at h
        · cases rm
          split at h
          · rename_i z
            split at h
            · rename_i hc
              obtain ⟨h1, h2, rfl⟩ := hc
              cases h
              cases rx with
              | slo _ _ _ _ p c hE hext hn =>
                have := run_bounds (P := P) w true len c l hh hl hhh rl rh h1 (by omega)
                by_cases e : c = l
                · have e1 : hh - l = 0 := by omega
                  refine ⟨.slice (some ⟨p.blk, p.off + o, none⟩) 0 0, ?_, by rw [e1]; exact .sl0 _ _ _ _ (by simp) p hE (fun z' hz' => by rw [← hext, e]; exact Nat.le_refl _)⟩
                  subst e
                  simp [Instr.sliceAt, run_underlying hu, Instr.slice, this, run_szT hz, e1]
                · refine ⟨.slice (some ⟨p.blk, p.off + (o + l * z), none⟩) (hh - l) (c - l), ?_, .slo _ _ _ _ p _ hE ?_ (by omega)⟩
                  · simp [Instr.sliceAt, run_underlying hu, Instr.slice, this, run_szT hz, e, add_zero]; omega
                  · rw [← hext, Nat.add_assoc, ← Nat.add_mul]
                    congr 2; omega
              | sl0 _ _ _ a hq p hE hzz =>
                have := run_bounds (P := P) w true 0 0 l hh hl hhh rl rh h1 (by omega)
                have e1 : l = 0 := by omega
                have e2 : hh = 0 := by omega
                subst e1; subst e2
                exact ⟨.slice (some a) 0 0, by simp [Instr.sliceAt, run_underlying hu, Instr.slice, this, run_szT hz], .sl0 _ _ _ _ (by simp) p hE (fun z' hz' => by rw [Nat.zero_mul, Nat.add_zero]; exact hzz _ rfl)⟩
            · cases h
          · rename_i c
            split at h
            · rename_i hc
              cases h
              cases rx with
              | sl _ _ _ p c hE hnc =>
                have := run_bounds (P := P) w true len c l hh hl hhh rl rh hc.1 hc.2
                by_cases e : c = l
                · refine ⟨.slice (some ⟨p.blk, p.off + o, none⟩) (hh - l) (c - l), ?_, by rw [if_pos e]; exact .sl _ _ _ p _ hE (by omega)⟩
                  subst e
                  simp [Instr.sliceAt, run_underlying hu, Instr.slice, this, run_szT hz]
                · refine ⟨.slice (some ⟨p.blk, p.off + (o + l * sz), none⟩) (hh - l) (c - l), ?_, by rw [if_neg e]; exact .sl _ _ _ p _ hE (by omega)⟩
                  simp [Instr.sliceAt, run_underlying hu, Instr.slice, this, run_szT hz, e, add_zero]; omega
              | sl0 _ _ _ a hq p hE hzz =>
                have e0 := hq c rfl
                subst e0
                have := run_bounds (P := P) w true 0 0 l hh hl hhh rl rh hc.1 hc.2
                have e1 : l = 0 := by omega
                have e2 : hh = 0 := by omega
                subst e1; subst e2
                refine ⟨.slice (some a) 0 0, by simp [Instr.sliceAt, run_underlying hu, Instr.slice, this, run_szT hz], .sl0 _ _ _ _ (by simp) p hE (by simp)⟩
            · cases h
        · rename_i mv
          cases hi with
          | none => cases h
          | some hv =>
          cases hm : asIdx mv with
          | none => simp only [hm] at h; cases h
          | some m =>
            simp only [hm] at h
            by_cases hc : l ≤ hh ∧ hh ≤ m ∧ m ≤ cap.most len
            · rw [if_pos hc] at h
              obtain ⟨h1, h2, h3⟩ := hc
              cases h
              cases rm with
              | some _ mv' hr =>
                obtain ⟨k, _, rfl⟩ := asIdx_sound hm hr
                have key : ∀ (p : Place) (c : Nat), E b = some p → m ≤ c → ∃ v', (Instr.sliceAt t (.slice (some ⟨p.blk, p.off + o, none⟩) len c) lo' hi' (some (.int k (m : Int)))).run P w = .ok v' w ∧ AR E (.sl b (if m = l then o else o + l * sz) (hh - l) (.ex (m - l))) v' := by
                  intro p c hE hmc
                  have := run_bounds3 (P := P) w len c l hh m (k := k) hl hhh rl rh (by simp) h1 h2 hmc
                  by_cases e : m = l
                  · refine ⟨.slice (some ⟨p.blk, p.off + o, none⟩) (hh - l) (m - l), ?_, by rw [if_pos e]; exact .sl _ _ _ p _ hE (by omega)⟩
                    subst e
                    simp [Instr.sliceAt, run_underlying hu, Instr.slice, this, run_szT hz]
                  · refine ⟨.slice (some ⟨p.blk, p.off + (o + l * sz), none⟩) (hh - l) (m - l), ?_, by rw [if_neg e]; exact .sl _ _ _ p _ hE (by omega)⟩
                    simp [Instr.sliceAt, run_underlying hu, Instr.slice, this, run_szT hz, e, add_zero]; omega
                cases rx with
                | sl _ _ _ p c hE hnc => exact key p c hE h3
                | slo _ _ _ z p c hE hext hn => exact key p c hE (Nat.le_trans h3 hn)
                | sl0 _ _ cc a hq p hE hzz =>
                  have h3' : m = 0 := by
                    cases cap with
                    | op z => simp [Cp.most] at h3; omega
                    | ex k => have := hq k rfl; simp [Cp.most] at h3; omega
                  subst h3'
                  have e1 : hh = 0 := by omega
                  have e2 : l = 0 := by omega
                  subst e1; subst e2
                  have := run_bounds3 (P := P) w 0 0 0 0 0 (k := k) hl hhh rl rh (by simp) (Nat.le_refl _) (Nat.le_refl _) (Nat.le_refl _)
                  refine ⟨.slice (some a) 0 0, ?_, .sl0 _ _ _ _ (by simp) p hE (by simp)⟩
                  simp only [Instr.sliceAt, Sem.run_bind, run_underlying hu, Result.andThen_ok, Instr.slice, this, run_szT hz]
                  simp
            · rw [if_neg hc] at h; cases h
      · cases h
  · rename_i n el b o hu
    split at h
    · rename_i sz l hh hz hl hhh
      cases rm
      split at h
      · rename_i hc
        cases h
        cases rx with
        | ptr _ _ p hE =>
          have := run_bounds (P := P) w false n n l hh hl hhh rl rh hc.1 hc.2
          by_cases e : n = l
          · refine ⟨.slice (some ⟨p.blk, p.off + o, none⟩) (hh - l) (n - l), ?_, by rw [if_pos e]; exact .sl _ _ _ p _ hE (by omega)⟩
            subst e
            simp [Instr.sliceAt, run_underlying hu, Instr.sureAddr, this, run_szT hz]
          · refine ⟨.slice (some ⟨p.blk, p.off + (o + l * sz), none⟩) (hh - l) (n - l), ?_, by rw [if_neg e]; exact .sl _ _ _ p _ hE (by omega)⟩
            simp [Instr.sliceAt, run_underlying hu, Instr.sureAddr, this, run_szT hz, e, add_zero]; omega
      · cases h
    · cases h
  · cases h

/-! ### building structs, arrays and rows -/
theorem foldl_writeAt (cs : Array Value) : ∀ (l : List Value) (off n : Nat), (l.zipIdx n).foldl (fun (cs : Array Value) (p : Value × Nat) => cs.setIfInBounds (off + p.2) p.1) cs = writeAt cs (off + n) l := by
  intro l
  induction l generalizing cs with
  | nil => intro off n; rfl
  | cons v l ih =>
    intro off n
    simp only [List.zipIdx_cons, List.foldl_cons, writeAt]
    rw [ih, Nat.add_assoc]

theorem writeAt_ARs {E : Env} {l : List V} {c : Array Value} {vs : List V} {vs' : List Value} {off : Nat} (r : ARs E l c.toList) (rv : ARs E vs vs') (h : off + vs.length ≤ l.length) :
    ARs E (l.take off ++ vs ++ l.drop (off + vs.length)) (writeAt c off vs').toList := by
  have hl := r.length
  have hv := rv.length
  have hcs : c.size = l.length := by rw [hl]; simp
  refine ARs.of_get (by rw [show (writeAt c off vs').toList.length = c.size from by rw [Array.length_toList, writeAt_size]]; simp; omega) fun i v hi => ?_
  rw [Array.getElem?_toList]
  by_cases h1 : i < off
  · have : l[i]? = some v := by
      rw [List.append_assoc, List.getElem?_append_left (by simp; omega), List.getElem?_take, if_pos h1] at hi
      exact hi
    obtain ⟨v', a, b⟩ := r.get i v this
    exact ⟨v', by rw [writeAt_out _ _ _ _ (by omega)]; simpa using a, b⟩
  · by_cases h2 : i < off + vs.length
    · have : vs[i - off]? = some v := by
        rw [List.append_assoc, List.getElem?_append_right (by simp; omega), List.getElem?_append_left (by simp; omega)] at hi
        rwa [show i - (l.take off).length = i - off by simp; omega] at hi
      obtain ⟨v', a, b⟩ := rv.get (i - off) v this
      refine ⟨v', ?_, b⟩
      have := writeAt_in vs' c off (i - off) (by omega) (by omega)
      rw [show off + (i - off) = i by omega] at this
      rw [this, a]
    · have : l[i]? = some v := by
        rw [List.getElem?_append_right (by simp; omega), List.getElem?_drop] at hi
        rwa [show off + vs.length + (i - (l.take off ++ vs).length) = i by simp; omega] at hi
      obtain ⟨v', a, b⟩ := r.get i v this
      exact ⟨v', by rw [writeAt_out _ _ _ _ (by omega)]; simpa using a, b⟩

inductive PsR (E : Env) : List (Nat × V) → List (Nat × Value) → Prop where
  | nil : PsR E [] []
  | cons (i : Nat) (v : V) (v' : Value) (l : List (Nat × V)) (l' : List (Nat × Value)) (h : AR E v v') (t : PsR E l l') : PsR E ((i, v) :: l) ((i, v') :: l')

theorem fill_sound {E : Env} {place : Nat → Option (Nat × Nat)} {ps : List (Nat × V)} {ps' : List (Nat × Value)} (rp : PsR E ps ps') : ∀ {cells : List V} {cells' : Array Value} {r : List V}, fillV place cells ps = some r → ARs E cells cells'.toList →
    ∃ r', Instr.fill place cells' ps' = some r' ∧ ARs E r r'.toList := by
  induction rp with
  | nil => intro cells cells' r h rc; simp [fillV] at h; subst h; exact ⟨cells', rfl, rc⟩
  | cons i v v' l l' hv t ih =>
    intro cells cells' r h rc
    simp only [fillV] at h
    split at h
    · cases h
    · rename_i off size hp
      split at h
      · rename_i hc
        obtain ⟨h1, h2⟩ := hc
        have hvc := hv.cells
        have e1 : v'.cells.size = size := by rw [← h1, hvc.length]; simp
        have e2 : cells'.size = cells.length := by rw [rc.length]; simp
        have hcond : ¬ (v'.cells.size ≠ size || off + v'.cells.size > cells'.size) = true := by
          simp only [e1, e2]; simp; omega
        have rw' := writeAt_ARs rc hvc (by rw [h1]; exact h2)
        rw [← h1] at h
        obtain ⟨r', hr, hrr⟩ := ih h rw'
        refine ⟨r', ?_, hrr⟩
        simp only [Instr.fill, hp]
        rw [if_neg hcond]
        have := foldl_writeAt cells' v'.cells.toList off 0
        rw [← Array.foldl_toList, Array.toList_zipIdx, this, Nat.add_zero]
        exact hr
      · cases h

theorem places_sound {fs : List Field} {pl : List (Nat × Nat)} (w : World) : ∀ {fs : List Field} {pl : List (Nat × Nat)}, places P fs = some pl →
    (fs.mapM (m := Sem) fun f => do pure (f.offset, ← sizeOf f.type)).run P w = .ok pl w
  | [], pl, h => by simp [places] at h; subst h; rfl
  | f :: fs, pl, h => by
    simp only [places] at h
    split at h
    · rename_i n l h1 h2
      cases h
      have ih := places_sound (fs := fs) (pl := l) w h2
      rw [List.mapM_cons]
      simp only [Sem.run_bind, run_szT h1, Result.andThen_ok, Sem.run_pure]
      rw [ih]; rfl
    · cases h

theorem evParts_sound {E : Env} {gl : List Nat} {nt : Nat} {tm : T V} {tmps : Array Value} (hg : GL E gl) (r : TR E nt tm tmps) : ∀ {xs : List (Nat × Operand)} {vs : List (Nat × V)}, evParts gl tm xs = some vs → PsR E vs (xs.map fun p => (p.1, evT tmps p.2))
  | [], vs, h => by simp [evParts] at h; subst h; exact .nil
  | (i, x) :: xs, vs, h => by
    simp only [evParts] at h
    split at h
    · rename_i v l h1 h2
      cases h
      exact .cons _ _ _ _ _ (ev_sound hg r h1) (evParts_sound hg r h2)
    · cases h

theorem abuild_sound {E : Env} {t : TypeId} {ps : List (Nat × V)} {ps' : List (Nat × Value)} {v : V} (h : abuild P t ps = some v) (r : PsR E ps ps') (w : World) :
    ∃ v', (Instr.build t ps'.toArray).run P w = .ok v' w ∧ AR E v v' := by
  unfold abuild at h
  split at h
  · rename_i z fields hz hu
    split at h
    · rename_i pl hpl
      cases hf : fillV (pl[·]?) z.cells ps with
      | none => rw [hf] at h; cases h
      | some l =>
        rw [hf] at h; cases h
        obtain ⟨z', hz', rz⟩ := run_zeroT E hz w
        obtain ⟨c', hc', rc⟩ := fill_sound r hf rz.cells
        refine ⟨.agg c', ?_, .agg _ _ rc⟩
        have hm := places_sound (fs := []) (pl := []) (P := P) w hpl
        have hm' : (fields.mapM (m := Sem) fun f => do pure (f.offset, ← sizeOf f.type)).run P w = .ok pl.toArray w := by
          rw [Array.mapM_eq_mapM_toList, Sem.run_map, hm]; rfl
        simp only [Instr.build, Sem.run_bind, hz', Result.andThen_ok, run_underlying hu, hm']
        have e : (fun x : Nat => pl.toArray[x]?) = (fun x : Nat => pl[x]?) := by funext x; simp
        simp [e, hc']
    · cases h
  · rename_i z n el hz hu
    split at h
    · rename_i n hn
      cases hf : fillV (fun i => some (i * n, n)) z.cells ps with
      | none => rw [hf] at h; cases h
      | some l =>
        rw [hf] at h; cases h
        obtain ⟨z', hz', rz⟩ := run_zeroT E hz w
        obtain ⟨c', hc', rc⟩ := fill_sound r hf rz.cells
        refine ⟨.agg c', ?_, .agg _ _ rc⟩
        simp [Instr.build, hz', run_underlying hu, run_szT hn, hc']
    · cases h
  · cases h

/-! ### maps, bytes -/
theorem keyEq_sound' {E : Env} {k k2 : V} {k' k2' : Value} {b : Bool} {d : TypeDesc} (hf : keyFits d k = true) (h : keyEq k k2 = some b) (r : AR E k k') (r2 : AR E k2 k2') : Instr.sameNow d k' k2' = some b := by
  cases d <;> cases k <;> simp [keyFits] at hf
  all_goals cases k2 <;> simp [keyEq] at h
  · cases r; cases r2; simp [Instr.sameNow, h]
  · obtain ⟨rfl, rfl⟩ := h
    cases r; cases r2; simp [Instr.sameNow]
  · cases r with
    | str _ x e => cases r2 with
      | str _ y e2 => simp only [Instr.sameNow]; rw [beq_toListBytes, str_inj e e2, h]

theorem run_checkKey {d : TypeDesc} {kt : TypeId} (hu : P.underlying kt = some d) {E : Env} {k : V} {k' : Value} (hf : keyFits d k = true) (r : AR E k k') (w : World) (b : Bool) : (Instr.checkKey b 10000 kt k').run P w = .ok () w := by
  cases d <;> cases k <;> simp [keyFits] at hf <;> cases r <;> (rw [show (10000 : Nat) = 9999 + 1 from rfl, Instr.checkKey]; simp [run_underlying hu])

theorem keyOk_fits {kt : TypeId} {k : V} (h : keyOk P kt k = true) : ∃ d, P.underlying kt = some d ∧ keyFits d k = true := by
  unfold keyOk at h
  split at h
  · rename_i d hd; exact ⟨d, hd, h⟩
  · cases h

abbrev EntR (E : Env) : V × V → MapEntry → Prop := fun e m => AR E e.1 m.key ∧ AR E e.2 m.val

theorem find_sound {E : Env} {k : V} {k' : Value} {d : TypeDesc} (hf : keyFits d k = true) (rk : AR E k k') {es : List (V × V)} {ents : List MapEntry} (rp : All₂ (EntR E) es ents) : ∀ {r : Option V} (i : Nat), findV k es = some r →
    (r = none ∧ Instr.findNow d k' ents i = some none) ∨ ∃ j v v', r = some v ∧ AR E v v' ∧ Instr.findNow d k' ents i = some (some (i + j, v')) ∧ ∃ e, ents[j]? = some e ∧ e.val = v' := by
  induction rp with
  | nil => intro r i h; simp [findV] at h; subst h; exact .inl ⟨rfl, rfl⟩
  | @cons e m es ents hr t ih =>
    intro r i h
    simp only [findV] at h
    split at h
    · rename_i hq
      cases h
      have := keyEq_sound' hf hq rk hr.1
      exact .inr ⟨0, e.2, m.val, rfl, hr.2, by simp [Instr.findNow, this], m, rfl, rfl⟩
    · rename_i hq
      have := keyEq_sound' hf hq rk hr.1
      rcases ih (i + 1) h with ⟨h1, h2⟩ | ⟨j, v, v', h1, h2, h3, e', h4, h5⟩
      · exact .inl ⟨h1, by simp [Instr.findNow, this, h2]⟩
      · exact .inr ⟨j + 1, v, v', h1, h2, by simp [Instr.findNow, this, h3]; omega, e', by simpa using h4, h5⟩
    · cases h

theorem bytesOf_sound {E : Env} : ∀ {l : List V} {bs : List Nat} {l' : List Value}, bytesOf l = some bs → ARs E l l' → l' = (bs.map fun n : Nat => (n : Int)).map (Value.int .u8) ∧ ∀ n ∈ bs, n < 256
  | [], bs, l', h, r => by simp [bytesOf] at h; subst h; cases r; simp
  | v :: l, bs, l', h, r => by
    cases r with
    | cons _ v' _ l2 hv t =>
      cases v with
      | int k n =>
        cases k <;> first | (simp [bytesOf] at h; done) | skip
        cases n with
        | negSucc m => simp [bytesOf] at h
        | ofNat m =>
          simp only [bytesOf] at h
          split at h
          · rename_i hm
            cases hb : bytesOf l with
            | none => rw [hb] at h; cases h
            | some bs' =>
              rw [hb] at h; cases h
              obtain ⟨e, f⟩ := bytesOf_sound hb t
              cases hv
              refine ⟨by rw [e]; rfl, ?_⟩
              intro n hn
              cases hn with
              | head => exact hm
              | tail _ hn => exact f n hn
          · cases h
      | _ => simp [bytesOf] at h

theorem fold_push : ∀ (bs : List Nat) (s : ByteArray), (∀ n ∈ bs, n < 256) → ((bs.map fun n : Nat => (n : Int)).foldl (fun (r : ByteArray) (n : Int) => r.push (UInt8.ofNat n.toNat)) s).data.toList.map UInt8.toNat = s.data.toList.map UInt8.toNat ++ bs := by
  intro bs
  induction bs with
  | nil => intro s _; simp
  | cons n bs ih =>
    intro s h
    simp only [List.map_cons, List.foldl_cons]
    rw [ih _ (fun m hm => h m (List.mem_cons_of_mem _ hm))]
    have : n < 256 := h n (List.mem_cons_self ..)
    simp [ByteArray.push, UInt8.toNat_ofNat', Nat.mod_eq_of_lt this]

/-! ### all of them -/
theorem optR_of {E : Env} {gl : List Nat} {nt : Nat} {tm : T V} {tmps : Array Value} (hg : GL E gl) (r : TR E nt tm tmps) {x : Option Operand} {v : Option V}
    (h : (match x with | none => some none | some x => (ev gl tm x).map some) = some v) : OptR E v (x.map (evT tmps)) := by
  cases x with
  | none => cases h; exact .none
  | some x =>
    simp only at h
    cases he : ev gl tm x with
    | none => rw [he] at h; cases h
    | some u => rw [he] at h; cases h; exact .some _ _ (ev_sound hg r he)

set_option maxHeartbeats 4000000 in
theorem light_sound {E : Env} {gl : List Nat} {nt : Nat} {tm : T V} {tmps : Array Value} {hh : H} {w0 w : World} (m : MR E hh w0 w) (hg : GL E gl) (r : TR E nt tm tmps) {o : Oper} {v : V} (h : alight P gl tm hh o = some v) :
    ∃ v', (execOp (evT tmps) o).run P w = .ok (.value v') w ∧ AR E v v' := by
  have fin : ∀ {s : Sem Value} {v' : Value}, s.run P w = .ok v' w → (do pure (Next.value (← s)) : Sem Next).run P w = .ok (.value v') w := by
    intro s v' hs; simp [hs]
  have wrap : ∀ {s : Sem Value}, (∃ v', s.run P w = .ok v' w ∧ AR E v v') → (execOp (evT tmps) o = do pure (Next.value (← s))) → ∃ v', (execOp (evT tmps) o).run P w = .ok (.value v') w ∧ AR E v v' := by
    rintro s ⟨v', h1, h2⟩ e; exact ⟨v', by rw [e]; exact fin h1, h2⟩
  obtain ⟨dst, op, ty, pos, after, guard⟩ := o
  cases op with
  | move x => exact ⟨_, rfl, ev_sound hg r h⟩
  | assign x => exact ⟨_, rfl, ev_sound hg r h⟩
  | pick c a b =>
    simp only [alight] at h
    split at h
    · rename_i hc
      have := ev_sound hg r hc
      cases hcv : evT tmps c <;> rw [hcv] at this <;> cases this
      exact ⟨evT tmps a, by simp [execOp, hcv, asBool], ev_sound hg r h⟩
    · rename_i hc
      have := ev_sound hg r hc
      cases hcv : evT tmps c <;> rw [hcv] at this <;> cases this
      exact ⟨evT tmps b, by simp [execOp, hcv, asBool], ev_sound hg r h⟩
    · cases h
  | build t parts =>
    simp only [alight] at h
    cases hp : evParts gl tm parts.toList with
    | none => rw [hp] at h; cases h
    | some ps =>
      rw [hp] at h
      refine wrap (abuild_sound h (evParts_sound hg r hp) w) ?_
      simp only [execOp]
      congr 2
      apply Array.toList_inj.1
      simp
  | load t a =>
    simp only [alight] at h
    split at h
    · rename_i b o ha hagg
      split at h
      · rename_i n hn
        cases hr : hh.rdN b o n with
        | none => rw [hr] at h; cases h
        | some l =>
          rw [hr] at h; cases h
          have := ev_sound hg r ha
          cases hcv : evT tmps a <;> rw [hcv] at this <;> cases this
          rename_i p hE
          obtain ⟨l', h1, h2, h3, h4, h5⟩ := rdN_sound (P := P) m hE hr
          exact wrap (s := Instr.loadAt t (evT tmps a)) ⟨.agg l'.toArray, by simp [Instr.loadAt, hcv, Instr.sureAddr, loadVar, run_isAggT hagg, run_szT hn, h1], .agg _ _ h2⟩ rfl
      · cases h
    · rename_i b o ha hagg
      have := ev_sound hg r ha
      cases hcv : evT tmps a <;> rw [hcv] at this <;> cases this
      rename_i p hE
      obtain ⟨v', h1, h2, h3⟩ := rd_sound m hE h
      exact wrap (s := Instr.loadAt t (evT tmps a)) ⟨v', by simp [Instr.loadAt, hcv, Instr.sureAddr, loadVar, run_isAggT hagg, h1], h2⟩ rfl
    · cases h
  | nilCheck x =>
    simp only [alight] at h
    split at h
    · rename_i b o ha
      cases h
      have := ev_sound hg r ha
      cases hcv : evT tmps x <;> rw [hcv] at this <;> cases this
      rename_i p hE
      exact ⟨_, by simp [execOp, hcv], .ptr b o p hE⟩
    · rename_i f a c ha
      cases h
      have := ev_sound hg r ha
      cases hcv : evT tmps x <;> rw [hcv] at this <;> cases this
      rename_i a' c' h1 h2
      exact ⟨_, by simp [execOp, hcv], .fn f a c a' c' h1 h2⟩
    · cases h
  | binOp op t x y yt =>
    simp only [alight] at h
    split at h
    · rename_i a b ha hb
      split at h
      · rename_i hgu
        have ra := ev_sound hg r ha
        have rb := ev_sound hg r hb
        obtain ⟨v', h1, h2⟩ := abin_sound h ra rb w
        exact ⟨v', by simp [execOp, guard_sound hgu ra rb w, h1], h2⟩
      · cases h
    · cases h
  | unOp op t x =>
    simp only [alight] at h
    split at h
    · rename_i b ha
      cases h
      have := ev_sound hg r ha
      cases hcv : evT tmps x <;> rw [hcv] at this <;> cases this
      exact ⟨_, by simp [execOp, hcv, Op.unary] <;> rfl, .bool _⟩
    · rename_i k n ha
      cases h
      have := ev_sound hg r ha
      cases hcv : evT tmps x <;> rw [hcv] at this <;> cases this
      exact ⟨_, by simp [execOp, hcv, Op.unary, Op.intArith] <;> rfl, .int _ _⟩
    · rename_i k n ha
      cases h
      have := ev_sound hg r ha
      cases hcv : evT tmps x <;> rw [hcv] at this <;> cases this
      exact ⟨_, by simp only [execOp, hcv, Op.unary]; rfl, .int _ _⟩
    · cases h
  | convert s d x =>
    simp only [alight] at h
    split at h
    · rename_i _ k k2 n hs hd ha
      cases h
      have := ev_sound hg r ha
      cases hcv : evT tmps x <;> rw [hcv] at this <;> cases this
      exact wrap (s := convert s d (evT tmps x)) ⟨_, by simp [hcv, convert, run_underlying hs, run_underlying hd, Conv.intToInt] <;> rfl, .int _ _⟩ rfl
    · rename_i ds sv hs hd ha
      cases h
      have := ev_sound hg r ha
      cases hcv : evT tmps x <;> rw [hcv] at this <;> cases this
      rename_i e
      refine wrap (s := convert s d (evT tmps x)) ⟨_, ?_, .str _ _ e⟩ rfl
      rw [hcv]
      cases ds <;> simp [convert, run_underlying hs, run_underlying hd]
    · rename_i el b o len cap hs hd ha
      split at h
      · rename_i hel
        split at h
        · rename_i cs hcs
          cases hb : bytesOf cs with
          | none => rw [hb] at h; cases h
          | some bs =>
            rw [hb] at h; cases h
            have := ev_sound hg r ha
            have key : ∀ (l' : List Value) (A : Addr) (c : Nat), (loadCells A len).run P w = .ok l'.toArray w → ARs E cs l' → ∃ v', (convert s d (.slice (some A) len c)).run P w = .ok v' w ∧ AR E (.str bs) v' := by
              intro l' A c hl rl
              obtain ⟨e, f⟩ := bytesOf_sound hb rl
              rw [e] at hl
              refine ⟨_, by rw [run_convert_bytes_string w s d el _ _ _ hs hel hd, run_bytesToString w A len c _ hl], .str _ _ ?_⟩
              rw [fold_push _ _ f]; simp
            cases hcv : evT tmps x <;> rw [hcv] at this <;> cases this
            · rename_i p hE hnc
              obtain ⟨l', h1, h2, h3, h4, h5⟩ := rdN_sound (P := P) m hE hcs
              refine wrap (s := convert s d (evT tmps x)) ?_ rfl
              rw [hcv]; exact key l' _ _ h1 h2
            · rename_i z p hE hext hn
              obtain ⟨l', h1, h2, h3, h4, h5⟩ := rdN_sound (P := P) m hE hcs
              refine wrap (s := convert s d (evT tmps x)) ?_ rfl
              rw [hcv]; exact key l' _ _ h1 h2
            · rename_i A p hE hzz hq
              have hcs0 : cs = [] := by
                unfold H.rdN at hcs
                split at hcs
                · split at hcs
                  · cases hcs; simp
                  · cases hcs
                · cases hcs
              subst hcs0
              refine wrap (s := convert s d (evT tmps x)) ?_ rfl
              rw [hcv]; exact key [] _ _ rfl .nil
        · cases h
      · cases h
    · rename_i el hs hd ha
      split at h
      · rename_i hel
        cases h
        have := ev_sound hg r ha
        cases hcv : evT tmps x <;> rw [hcv] at this <;> cases this
        refine wrap (s := convert s d (evT tmps x)) ⟨_, ?_, .str [] ByteArray.empty rfl⟩ rfl
        rw [hcv, run_convert_bytes_string w s d el _ _ _ hs hel hd]
        rfl
      · cases h
    · cases h
  | makeInterface t x =>
    simp only [alight] at h
    cases hu : P.underlying t with
    | none => simp [hu] at h
    | some d =>
      cases ha : ev gl tm x with
      | none => cases d <;> simp [hu, ha] at h
      | some v1 =>
        have rx := ev_sound hg r ha
        have hm : ∀ ms, d ≠ .interface ms := by rintro ms rfl; simp [hu] at h
        have hv : v = .iface t v1 := by cases d <;> simp [hu, ha] at h <;> first | exact h.symm | exact absurd rfl (hm _)
        subst hv
        refine wrap (s := Instr.makeInterface t (evT tmps x)) ⟨_, ?_, .iface t _ _ rx⟩ rfl
        cases d <;> first | exact absurd rfl (hm _) | simp [Instr.makeInterface, run_underlying hu]
  | makeFunc fn first cap =>
    cases fn with
    | func g =>
      simp only [alight] at h
      split at h
      · rename_i a b ha hb
        cases h
        have r1 := evs_sound hg r ha
        have r2 := evs_sound hg r hb
        exact ⟨.func (.func g) (first.map (evT tmps)) (cap.map (evT tmps)), rfl, .fn _ _ _ _ _ (by simpa using r1) (by simpa using r2)⟩
      · cases h
    | _ => simp [alight] at h
  | slice t x lo hi mx =>
    simp only [alight] at h
    split at h
    · rename_i x1 lo1 hi1 mx1 hx hlo hhi hmx
      exact wrap (s := Instr.sliceAt t (evT tmps x) (lo.map (evT tmps)) (hi.map (evT tmps)) (mx.map (evT tmps))) (aslice_sound h (ev_sound hg r hx) (optR_of hg r hlo) (optR_of hg r hhi) (optR_of hg r hmx) w) rfl
    · cases h
  | fieldAddr s x f =>
    simp only [alight] at h
    split at h
    · rename_i fs b o hu ha
      cases hf : fs[f]? with
      | none => rw [hf] at h; cases h
      | some fd =>
        rw [hf] at h
        simp only [Option.bind_some] at h
        split at h
        · rename_i n hn
          cases h
          have := ev_sound hg r ha
          cases hcv : evT tmps x <;> rw [hcv] at this <;> cases this
          rename_i p hE
          refine wrap (s := Instr.fieldAt s (evT tmps x) f) ⟨.pointer (some ⟨p.blk, p.off + (o + fd.offset), none⟩), ?_, .ptr _ _ p hE⟩ rfl
          simp [Instr.fieldAt, run_underlying hu, hf, hcv, Instr.sureAddr, fieldPlace, run_szT hn, add_zero]; omega
        · cases h
    · cases h
  | field t x f =>
    simp only [alight] at h
    split at h
    · rename_i fs cs hu ha
      cases hf : fs[f]? with
      | none => rw [hf] at h; cases h
      | some fd =>
        rw [hf] at h
        simp only [Option.bind_some] at h
        have := ev_sound hg r ha
        cases hcv : evT tmps x <;> rw [hcv] at this <;> cases this
        rename_i cs' hcs
        obtain ⟨v', h1, h2⟩ := partV_sound h hcs w
        exact wrap (s := Instr.field t (evT tmps x) f) ⟨v', by simp [Instr.field, run_underlying hu, hf, hcv, asAgg, h1], h2⟩ rfl
    · cases h
  | extract x i =>
    simp only [alight] at h
    split at h
    · rename_i vs ha
      have := ev_sound hg r ha
      cases hcv : evT tmps x <;> rw [hcv] at this <;> cases this
      rename_i cs' hcs
      obtain ⟨v', h1, h2⟩ := hcs.get i v h
      have h1' : cs'[i]? = some v' := by simpa using h1
      exact wrap (s := Instr.extract (evT tmps x) i) ⟨v', by simp [Instr.extract, hcv, h1'], h2⟩ rfl
    · cases h
  | indexAddr t x i =>
    simp only [alight] at h
    split at h
    · rename_i len el b o i' hu ha hi
      split at h
      · rename_i hlt
        cases hn : szT P el with
        | none => rw [hn] at h; cases h
        | some n =>
          rw [hn] at h; cases h
          cases hiv : ev gl tm i with
          | none => rw [hiv] at hi; cases hi
          | some iv =>
            rw [hiv] at hi
            obtain ⟨k, _, e⟩ := asIdx_sound hi (ev_sound hg r hiv)
            have := ev_sound hg r ha
            cases hcv : evT tmps x <;> rw [hcv] at this <;> cases this
            rename_i p hE
            refine wrap (s := Instr.indexAt t (evT tmps x) (evT tmps i)) ⟨.pointer (some ⟨p.blk, p.off + (o + i' * n), none⟩), ?_, .ptr _ _ p hE⟩ rfl
            simp [Instr.indexAt, e, asIntOf, run_underlying hu, hcv, Instr.sureAddr, run_szT hn, hlt, add_zero]; omega
      · cases h
    · rename_i el b o len c i' hu ha hi
      split at h
      · rename_i hlt
        cases hn : szT P el with
        | none => rw [hn] at h; cases h
        | some n =>
          rw [hn] at h; cases h
          cases hiv : ev gl tm i with
          | none => rw [hiv] at hi; cases hi
          | some iv =>
            rw [hiv] at hi
            obtain ⟨k, _, e⟩ := asIdx_sound hi (ev_sound hg r hiv)
            have := ev_sound hg r ha
            have key : ∀ (p : Place) (cc : Nat), E b = some p → evT tmps x = .slice (some ⟨p.blk, p.off + o, none⟩) len cc → ∃ v', (Instr.indexAt t (evT tmps x) (evT tmps i)).run P w = .ok v' w ∧ AR E (.ptr b (o + i' * n)) v' := by
              intro p cc hE hcv
              refine ⟨.pointer (some ⟨p.blk, p.off + (o + i' * n), none⟩), ?_, .ptr _ _ p hE⟩
              simp [Instr.indexAt, e, asIntOf, run_underlying hu, hcv, run_szT hn, hlt, add_zero]; omega
            cases hcv : evT tmps x <;> rw [hcv] at this <;> cases this
            · rename_i p hE hnc; exact wrap (s := Instr.indexAt t (evT tmps x) (evT tmps i)) (key p _ hE hcv) rfl
            · rename_i z p hE h1 h2; exact wrap (s := Instr.indexAt t (evT tmps x) (evT tmps i)) (key p _ hE hcv) rfl
            · omega
      · cases h
    · cases h
  | index t x i =>
    simp only [alight] at h
    split at h
    · rename_i len el cs i' hu ha hi
      split at h
      · rename_i hlt
        cases hn : szT P el with
        | none => rw [hn] at h; cases h
        | some n =>
          rw [hn] at h
          simp only [Option.bind_some] at h
          cases hiv : ev gl tm i with
          | none => rw [hiv] at hi; cases hi
          | some iv =>
            rw [hiv] at hi
            obtain ⟨k, _, e⟩ := asIdx_sound hi (ev_sound hg r hiv)
            have := ev_sound hg r ha
            cases hcv : evT tmps x <;> rw [hcv] at this <;> cases this
            rename_i cs' hcs
            obtain ⟨v', h1, h2⟩ := partV_sound h hcs w
            refine wrap (s := Instr.index t (evT tmps x) (evT tmps i)) ⟨v', ?_, h2⟩ rfl
            simp [Instr.index, e, asIntOf, run_underlying hu, hcv, run_szT hn, hlt, h1]
      · cases h
    · rename_i s i' hu ha hi
      cases hs : s[i']? with
      | none => rw [hs] at h; cases h
      | some c =>
        rw [hs] at h; cases h
        cases hiv : ev gl tm i with
        | none => rw [hiv] at hi; cases hi
        | some iv =>
          rw [hiv] at hi
          obtain ⟨k, _, e⟩ := asIdx_sound hi (ev_sound hg r hiv)
          have := ev_sound hg r ha
          cases hcv : evT tmps x <;> rw [hcv] at this <;> cases this
          rename_i y he
          have hc : ∃ u : UInt8, y.data[i']? = some u ∧ u.toNat = c := by
            rw [← he, List.getElem?_map] at hs
            cases hy : y.data.toList[i']? with
            | none => rw [hy] at hs; cases hs
            | some u => rw [hy] at hs; exact ⟨u, by simpa using hy, by simpa using hs⟩
          obtain ⟨u, hu1, hu2⟩ := hc
          have hy : y[i']? = some u := by
            rw [← hu1]; rfl
          refine wrap (s := Instr.index t (evT tmps x) (evT tmps i)) ⟨.int .u8 u.toNat, ?_, by rw [hu2]; exact .int _ _⟩ rfl
          simp [Instr.index, e, asIntOf, run_underlying hu, hcv, hy]
    · cases h
  | lookup t x k ok =>
    simp only [alight] at h
    split at h
    · rename_i kt et mv kv hu ha hk
      split at h
      · cases h
      · rename_i hok
        obtain ⟨d, hd, hf⟩ := keyOk_fits hok
        have rk := ev_sound hg r hk
        have rm := ev_sound hg r ha
        have key : ∀ (ents : Array MapEntry) (es : List (V × V)) (q : Option V), All₂ (EntR E) es ents.toList → findV kv es = some q →
            (match q with | some v => some (if ok then V.tup [v, .bool true] else v) | none => (zeroT P et).map fun z => if ok then .tup [z, .bool false] else z) = some v →
            ∃ v', AR E v v' ∧ (Instr.checkKey ents.isEmpty 10000 kt (evT tmps k)).run P w = .ok () w ∧
              ((∃ j u, (Instr.findKey kt (evT tmps k) ents.toList).run P w = .ok (some (j, u)) w ∧ v' = if ok then .tuple #[u, .bool true] else u) ∨
               ((Instr.findKey kt (evT tmps k) ents.toList).run P w = .ok none w ∧ ∃ z', (zeroValue et).run P w = .ok z' w ∧ v' = if ok then .tuple #[z', .bool false] else z')) := by
          intro ents es q rp hq hv
          have hck := run_checkKey hd hf rk w ents.isEmpty
          rcases find_sound hf rk rp 0 hq with ⟨rfl, hn⟩ | ⟨j, u, u', rfl, hu', hn, _⟩
          · cases hz : zeroT P et with
            | none => rw [hz] at hv; cases hv
            | some z =>
              rw [hz] at hv
              obtain ⟨z', hz', rz⟩ := run_zeroT E hz w
              have hfk : (Instr.findKey kt (evT tmps k) ents.toList).run P w = .ok none w := by
                simp [Instr.findKey, run_underlying hd, hn]
              cases ok with
              | true => cases hv; exact ⟨.tuple #[z', .bool false], .tup _ _ (.cons _ _ _ _ rz (.cons _ _ _ _ (.bool false) .nil)), hck, .inr ⟨hfk, z', hz', rfl⟩⟩
              | false => cases hv; exact ⟨z', rz, hck, .inr ⟨hfk, z', hz', rfl⟩⟩
          · have hfk : (Instr.findKey kt (evT tmps k) ents.toList).run P w = .ok (some (0 + j, u')) w := by
              simp [Instr.findKey, run_underlying hd, hn]
            cases ok with
            | true => cases hv; exact ⟨.tuple #[u', .bool true], .tup _ _ (.cons _ _ _ _ hu' (.cons _ _ _ _ (.bool true) .nil)), hck, .inl ⟨_, _, hfk, rfl⟩⟩
            | false => cases hv; exact ⟨u', hu', hck, .inl ⟨_, _, hfk, rfl⟩⟩
        refine wrap (s := Instr.lookup t (evT tmps x) (evT tmps k) ok) ?_ rfl
        cases mv with
        | nilm =>
          cases hcv : evT tmps x <;> rw [hcv] at rm <;> cases rm
          obtain ⟨v', h2, h1, h3⟩ := key #[] [] none .nil rfl h
          refine ⟨v', ?_, h2⟩
          have h1' : (Instr.checkKey true 10000 kt (evT tmps k)).run P w = .ok () w := h1
          rcases h3 with ⟨j, u, h3, rfl⟩ | ⟨h3, z', hz', rfl⟩
          · simp at h3; cases ok <;> simp [Instr.lookup, run_underlying hu, h1', h3]
          · simp at h3; cases ok <;> simp [Instr.lookup, run_underlying hu, h1', h3, hz']
        | map b =>
          cases hcv : evT tmps x <;> rw [hcv] at rm <;> cases rm
          rename_i p hE
          cases hb : hh.get b with
          | none => simp [hb] at h
          | some ob =>
            cases ob with
            | map es =>
              obtain ⟨ents, clock, h1, h2⟩ := m.obj b _ p hb hE
              have hgo : (getObj p.blk).run P w = .ok (.map ents clock) w := by simp [getObj, Sem.run, h1]
              cases hq : findV kv es with
              | none => simp [hb, hq] at h
              | some q =>
                obtain ⟨v', h4, h5, h6⟩ := key ents es q h2 hq (by cases q <;> simpa [hb, hq] using h)
                refine ⟨v', ?_, h4⟩
                rcases h6 with ⟨j, u, h3, rfl⟩ | ⟨h3, z', hz', rfl⟩
                · cases ok <;> simp [Instr.lookup, run_underlying hu, hgo, h5, h3]
                · cases ok <;> simp [Instr.lookup, run_underlying hu, hgo, h5, h3, hz']
            | _ => simp [hb] at h
        | _ => simp at h
    · cases h
  | typeAssert x xt asserted ok =>
    simp only [alight] at h
    split at h
    · rename_i ti vi d ha hd
      have rx := ev_sound hg r ha
      cases hcv : evT tmps x <;> rw [hcv] at rx <;> cases rx
      rename_i vi' rv
      refine wrap (s := Instr.typeAssert (evT tmps x) xt asserted ok) ?_ rfl
      rw [hcv]
      have hnot : ∀ ms, d ≠ .interface ms := by rintro ms rfl; simp at h
      have h' : (if ti = asserted then some (if ok then V.tup [vi, .bool true] else vi) else if ok then (zeroT P asserted).map fun z => V.tup [z, .bool false] else none) = some v := by
        cases d <;> first | exact absurd rfl (hnot _) | exact h
      by_cases e : ti = asserted
      · rw [if_pos e] at h'
        cases ok with
        | true => cases h'; exact ⟨.tuple #[vi', .bool true], by cases d <;> first | exact absurd rfl (hnot _) | simp [Instr.typeAssert, run_underlying hd, e], .tup _ _ (.cons _ _ _ _ rv (.cons _ _ _ _ (.bool true) .nil))⟩
        | false => cases h'; exact ⟨vi', by cases d <;> first | exact absurd rfl (hnot _) | simp [Instr.typeAssert, run_underlying hd, e], rv⟩
      · rw [if_neg e] at h'
        cases ok with
        | false => simp at h'
        | true =>
          cases hz : zeroT P asserted with
          | none => rw [hz] at h'; cases h'
          | some z =>
            rw [hz] at h'; cases h'
            obtain ⟨z', hz', rz⟩ := run_zeroT E hz w
            exact ⟨.tuple #[z', .bool false], by cases d <;> first | exact absurd rfl (hnot _) | simp [Instr.typeAssert, run_underlying hd, e, hz'], .tup _ _ (.cons _ _ _ _ rz (.cons _ _ _ _ (.bool false) .nil))⟩
    · rename_i d ha hd
      have rx := ev_sound hg r ha
      cases hcv : evT tmps x <;> rw [hcv] at rx <;> cases rx
      refine wrap (s := Instr.typeAssert (evT tmps x) xt asserted ok) ?_ rfl
      rw [hcv]
      cases ok with
      | false => simp at h
      | true =>
        cases hz : zeroT P asserted with
        | none => rw [hz] at h; cases h
        | some z =>
          rw [hz] at h; cases h
          obtain ⟨z', hz', rz⟩ := run_zeroT E hz w
          exact ⟨.tuple #[z', .bool false], by cases d <;> simp [Instr.typeAssert, run_underlying hd, hz'], .tup _ _ (.cons _ _ _ _ rz (.cons _ _ _ _ (.bool false) .nil))⟩
    · cases h
  | call c =>
    obtain ⟨callee, args, argTypes⟩ := c
    cases callee with
    | builtin b =>
      simp only [alight] at h
      split at h
      · cases h
      · rename_i vs hvs
        have rvs := evs_sound hg r hvs
        have hexe : ∀ (s : Sem Value), builtin b argTypes ty (args.map fun | .const _ => true | _ => false) (args.map (evT tmps)) = (do pure (Next.value (← s)) : Sem Next) →
            execOp (evT tmps) ⟨dst, .call ⟨.builtin b, args, argTypes⟩, ty, pos, after, guard⟩ = (do pure (Next.value (← s)) : Sem Next) := by
          intro s hs; rw [← hs]; rfl
        have hty : ∀ d, (argTypes[0]?).bind P.underlying = some d → ∃ t, argTypes[0]? = some t ∧ P.underlying t = some d := by
          intro d hd
          cases ht : argTypes[0]? with
          | none => rw [ht] at hd; cases hd
          | some t => rw [ht] at hd; exact ⟨t, rfl, hd⟩
        have one : ∀ {v0 : V} {args0 : List Value}, ARs E [v0] args0 → ∃ v0', args0 = [v0'] ∧ AR E v0 v0' := by
          intro v0 args0 ha; cases ha with | cons _ v' _ _ h1 t => cases t; exact ⟨v', rfl, h1⟩
        have two : ∀ {v0 v1 : V} {args0 : List Value}, ARs E [v0, v1] args0 → ∃ a b, args0 = [a, b] ∧ AR E v0 a ∧ AR E v1 b := by
          intro v0 v1 args0 ha
          cases ha with | cons _ v' _ _ h1 t => cases t with | cons _ v'' _ _ h2 t => cases t; exact ⟨v', v'', rfl, h1, h2⟩
        have arr : ∀ {l : List Value}, args.toList.map (evT tmps) = l → args.map (evT tmps) = l.toArray := by
          intro l hl; apply Array.toList_inj.1; simpa using hl
        split at h
        · rename_i s hd
          cases h
          obtain ⟨t, ht, hu⟩ := hty _ hd
          obtain ⟨a, ha, ra⟩ := one rvs
          cases ra with
          | str _ y e =>
            have hs : y.size = s.length := by rw [← e, List.length_map, Array.length_toList]; rfl
            refine wrap (s := Builtin.len_ argTypes ty (args.map (evT tmps))) ⟨_, ?_, .int _ _⟩ (hexe _ rfl)
            rw [arr ha]; simp [Builtin.len_, ht, run_underlying hu, goInt, hs]
        · rename_i el hd
          cases h
          obtain ⟨t, ht, hu⟩ := hty _ hd
          obtain ⟨a, ha, ra⟩ := one rvs
          cases ra
          refine wrap (s := Builtin.len_ argTypes ty (args.map (evT tmps))) ⟨_, ?_, .int _ _⟩ (hexe _ rfl)
          rw [arr ha]; simp [Builtin.len_, ht, run_underlying hu, goInt]
        · rename_i b0 o0 n c el hd
          cases h
          obtain ⟨t, ht, hu⟩ := hty _ hd
          obtain ⟨a, ha, ra⟩ := one rvs
          refine wrap (s := Builtin.len_ argTypes ty (args.map (evT tmps))) ⟨.int .i64 n, ?_, .int _ _⟩ (hexe _ rfl)
          rw [arr ha]; cases ra <;> simp [Builtin.len_, ht, run_underlying hu, goInt]
        · rename_i k0 e0 hd
          cases h
          obtain ⟨t, ht, hu⟩ := hty _ hd
          obtain ⟨a, ha, ra⟩ := one rvs
          cases ra
          refine wrap (s := Builtin.len_ argTypes ty (args.map (evT tmps))) ⟨_, ?_, .int _ _⟩ (hexe _ rfl)
          rw [arr ha]; simp [Builtin.len_, ht, run_underlying hu, goInt]
        · rename_i b0 k0 e0 hd
          obtain ⟨t, ht, hu⟩ := hty _ hd
          obtain ⟨a, ha, ra⟩ := one rvs
          cases ra with
          | map _ p hE =>
            cases hb : hh.get b0 with
            | none => simp [hb] at h
            | some ob =>
              cases ob with
              | map es =>
                obtain ⟨ents, clock, h1, h2⟩ := m.obj b0 _ p hb hE
                have hgo : (getObj p.blk).run P w = .ok (.map ents clock) w := by simp [getObj, Sem.run, h1]
                simp [hb] at h
                subst h
                have hlen : ents.size = es.length := by rw [h2.length]; simp
                refine wrap (s := Builtin.len_ argTypes ty (args.map (evT tmps))) ⟨_, ?_, .int _ _⟩ (hexe _ rfl)
                rw [arr ha]; simp [Builtin.len_, ht, run_underlying hu, goInt, hgo, hlen]
              | _ => simp [hb] at h
        · rename_i b0 o0 n c el hd
          cases h
          obtain ⟨t, ht, hu⟩ := hty _ hd
          obtain ⟨a, ha, ra⟩ := one rvs
          refine wrap (s := Builtin.cap_ argTypes ty (args.map (evT tmps))) ⟨.int .i64 c, ?_, .int _ _⟩ (hexe _ rfl)
          rw [arr ha]
          cases ra with
          | sl _ _ _ p _ hE hnc => simp [Builtin.cap_, ht, run_underlying hu, goInt]
          | sl0 _ _ _ A hq p hE hzz => have := hq c rfl; subst this; simp [Builtin.cap_, ht, run_underlying hu, goInt]
        · rename_i k a k' b hd
          split at h
          · rename_i e
            subst e; cases h
            obtain ⟨a', b', ha, ra, rb⟩ := two rvs
            cases ra; cases rb
            refine wrap (s := Builtin.max_ argTypes ty (args.map (evT tmps))) ⟨_, ?_, .int _ _⟩ (hexe _ rfl)
            rw [arr ha]; simp [Builtin.max_, Builtin.max2]
          · cases h
        · rename_i k a k' b hd
          split at h
          · rename_i e
            subst e; cases h
            obtain ⟨a', b', ha, ra, rb⟩ := two rvs
            cases ra; cases rb
            refine wrap (s := Builtin.min_ argTypes ty (args.map (evT tmps))) ⟨_, ?_, .int _ _⟩ (hexe _ rfl)
            rw [arr ha]; simp [Builtin.min_, Builtin.min2]
          · cases h
        · cases h
    | value f => simp [alight] at h
    | invoke f n => simp [alight] at h
  | _ => simp [alight] at h
end
end Go.AM
