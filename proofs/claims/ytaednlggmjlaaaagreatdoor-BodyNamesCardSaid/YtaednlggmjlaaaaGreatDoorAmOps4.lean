/- The abstract machine: operations that make memory. -/
import Derived.Test.YtaednlggmjlaaaaGreatDoorAmOps3
set_option linter.unusedVariables false
set_option linter.unusedSimpArgs false
namespace Go.AM
noncomputable section
open Go.RowKit
variable {P : Program}

theorem zeros_length (z : List V) : ∀ k, (zeros z k).length = k * z.length
  | 0 => by simp [zeros]
  | k + 1 => by simp [zeros, zeros_length z k, Nat.add_mul]; omega

theorem zeros_get (z : List V) : ∀ (k i : Nat), i < k * z.length → (zeros z k)[i]? = z[i % z.length]?
  | 0, i, h => by simp at h
  | k + 1, i, h => by
    rw [zeros]
    by_cases hi : i < z.length
    · rw [List.getElem?_append_left hi, Nat.mod_eq_of_lt hi]
    · rw [List.getElem?_append_right (by omega), zeros_get z k _ (by rw [Nat.add_mul] at h; omega)]
      congr 1
      exact (Nat.mod_eq_sub_mod (by omega)).symm

theorem zeros_sound {E : Env} {z : List V} {z' : Array Value} (r : ARs E z z'.toList) (k n : Nat) (hn : z.length = n) :
    ARs E (zeros z k) ((Array.range (k * n)).map (z'[· % z'.size]!)).toList := by
  have hz : z'.size = n := by have := r.length; simp at this; omega
  refine ARs.of_get (by rw [zeros_length, hn]; simp) fun i v hi => ?_
  have hlt : i < k * n := by
    rcases Nat.lt_or_ge i (k * n) with g | g
    · exact g
    · rw [List.getElem?_eq_none (by rw [zeros_length, hn]; exact g)] at hi; cases hi
  rw [zeros_get z k i (by rw [hn]; exact hlt), hn] at hi
  obtain ⟨v', h1, h2⟩ := r.get _ _ hi
  refine ⟨v', ?_, h2⟩
  have h1' : z'[i % n]? = some v' := by simpa using h1
  have hlt2 : i % n < z'.size := by
    rcases Nat.lt_or_ge (i % n) z'.size with g | g
    · exact g
    · rw [Array.getElem?_eq_none g] at h1'; cases h1'
  rw [Array.getElem?_toList, Array.getElem?_map, Array.getElem?_range, if_pos hlt, Option.map_some, hz, getElem!_pos z' (i % n) hlt2]
  rw [Array.getElem?_eq_getElem hlt2] at h1'
  exact h1'

theorem zeros_all {z : List V} (h : z.all V.isCell = true) : ∀ k, (zeros z k).all V.isCell = true
  | 0 => rfl
  | k + 1 => by rw [zeros, List.all_append, h, zeros_all h k]; rfl

/-- a row of cells that was just made. -/
theorem cells_obj {E : Env} {w : World} {l : List V} {c : Array Value} (r : ARs E l c.toList) (hc : l.all V.isCell = true) (opn : Bool) (t : TypeId) (ext : Nat) (h1 : l.length ≤ ext) (c2 : Array Value) (h2 : ext ≤ c2.size)
    (h3 : ∀ i, i < l.length → c2[i]? = c[i]?) (lo hi : Nat) (h4 : ∀ i, i < c2.size → ¬ (lo ≤ i ∧ i < hi)) :
    ObjR E (.cells opn l) ⟨w.heap.size, 0, ext⟩ { w with heap := w.heap.push (.cells c2 t (lo, hi)) } := by
  refine ⟨c2, t, lo, hi, by simp, h4, by simpa using h2, h1, fun i v hv => ?_⟩
  have hi' : i < l.length := (List.getElem?_eq_some_iff.1 hv).1
  obtain ⟨v', a, b⟩ := r.get i v hv
  refine ⟨List.all_eq_true.1 hc v (List.mem_of_getElem? hv), v', ?_, b⟩
  rw [Nat.zero_add, h3 i hi']; simpa using a

/-- what an allocation comes to. -/
def AllocR (P : Program) (gl : List Nat) (nt : Nat) (tm : T V) (o : Oper) (b : Nat) (ob : Obj) (v : V) : Prop :=
  ∀ (E : Env) (w : World) (tmps : Array Value), GL E gl → TR E nt tm tmps →
    ∃ v' cob n p, (execOp (evT tmps) o).run P w = .ok (.value v') { w with heap := w.heap.push cob, drawn := n } ∧ p.blk = w.heap.size ∧
      ObjR E ob p { w with heap := w.heap.push cob } ∧ ∀ E' : Env, E' b = some p → AR E' v v'

theorem map_new {h : H} {ob : Obj} {f : Nat → V} {v : V} {h1 : H} (hn : ((h.new ob).map fun (b, h) => (f b, h)) = some (v, h1)) : ∃ b, h.new ob = some (b, h1) ∧ v = f b := by
  cases hq : h.new ob with
  | none => rw [hq] at hn; cases hn
  | some q => rw [hq] at hn; cases hn; exact ⟨q.1, rfl, rfl⟩

theorem wrap_small {n : Nat} (h : n ≤ 65536) : IntKind.i64.wrap (n : Int) = n := by
  simp [IntKind.wrap, IntKind.bits, IntKind.signed]; omega

set_option maxHeartbeats 1000000 in
theorem alloc_sound {gl : List Nat} {nt : Nat} {tm : T V} {h h1 : H} {o : Oper} {v : V} (ha : aalloc P gl tm h o = some (v, h1)) :
    ∃ b ob, h.new ob = some (b, h1) ∧ AllocR P gl nt tm o b ob v := by
  obtain ⟨dst, op, ty, pos, after, guard⟩ := o
  have wrap : ∀ {ρ : Operand → Value} {s : Sem Value} {v' : Value} {w w' : World}, s.run P w = .ok v' w' → (do pure (Next.value (← s)) : Sem Next).run P w = .ok (.value v') w' := by
    intro ρ s v' w w' hs; simp [hs]
  cases op with
  | alloc t =>
    simp only [aalloc] at ha
    split at ha
    · rename_i z hz
      split at ha
      · rename_i hall
        obtain ⟨b, hn, rfl⟩ := map_new (f := fun b => V.ptr b 0) ha
        refine ⟨b, _, hn, fun E w tmps hg r => ?_⟩
        obtain ⟨z', hz', rz⟩ := run_zeroT E hz w
        have rc := rz.cells
        refine ⟨.pointer (some ⟨w.heap.size, 0, none⟩), .cells z'.cells t, w.drawn, ⟨w.heap.size, 0, z'.cells.size⟩, ?_, rfl, ?_, fun E' hE => .ptr b 0 _ hE⟩
        · refine wrap (ρ := evT tmps) ?_
          simp [Instr.alloc, hz', newVar, newRow]
        · exact cells_obj rc hall _ _ _ (by rw [rc.length]; simp) _ (Nat.le_refl _) (fun _ _ => rfl) 0 0 (by omega)
      · cases ha
    · cases ha
  | box t x =>
    simp only [aalloc] at ha
    split at ha
    · rename_i z hz
      split at ha
      · rename_i hall
        obtain ⟨b, hn, rfl⟩ := map_new (f := fun b => V.ptr b 0) ha
        refine ⟨b, _, hn, fun E w tmps hg r => ?_⟩
        have rc := (ev_sound hg r hz).cells
        refine ⟨.pointer (some ⟨w.heap.size, 0, none⟩), .cells (evT tmps x).cells t, w.drawn, ⟨w.heap.size, 0, (evT tmps x).cells.size⟩, ?_, rfl, ?_, fun E' hE => .ptr b 0 _ hE⟩
        · refine wrap (ρ := evT tmps) ?_
          simp [Instr.box, newVar, newRow]
        · exact cells_obj rc hall _ _ _ (by rw [rc.length]; simp) _ (Nat.le_refl _) (fun _ _ => rfl) 0 0 (by omega)
      · cases ha
    · cases ha
  | buildSlice t len parts =>
    simp only [aalloc] at ha
    split at ha
    · rename_i el ps hu hps
      split at ha
      · rename_i n z hn hz
        split at ha
        · rename_i hc
          split at ha
          · rename_i cs hcs
            split at ha
            · rename_i hall
              obtain ⟨b, hnew, rfl⟩ := map_new (f := fun b => V.sl b 0 len (.ex len)) ha
              refine ⟨b, _, hnew, fun E w tmps hg r => ?_⟩
              obtain ⟨z', hz', rz⟩ := run_zeroT E hz w
              have rp := evParts_sound hg r hps
              have rzz := zeros_sound rz.cells len n hc.2
              have hl24 : ¬ len * n > 2 ^ 24 := by omega
              by_cases h0 : len * n = 0
              · have e : (Array.range (len * n)).map ((z'.cells)[· % z'.cells.size]!) = #[] := by rw [h0]; simp
                rw [e] at rzz
                obtain ⟨c', hf, rc⟩ := fill_sound rp hcs rzz
                refine ⟨.slice (some ⟨w.heap.size, 0, none⟩) len len, .cells c' el, w.drawn, ⟨w.heap.size, 0, c'.size⟩, ?_, rfl, ?_, fun E' hE => .sl b 0 len _ len hE (Nat.le_refl _)⟩
                · refine wrap (ρ := evT tmps) ?_
                  have hf' : Instr.fill (fun i => some (i * n, n)) #[] (parts.map fun p => (p.1, evT tmps p.2)).toList = some c' := by simpa using hf
                  have e2 : (Array.range (len * n)).map ((#[] : Array Value)[· % (#[] : Array Value).size]!) = #[] := by rw [h0]; simp
                  simp only [Instr.buildSlice, Sem.run_bind, run_underlying hu, run_szT hn, Result.andThen_ok, if_neg hl24, Sem.run_ite, if_pos h0, Sem.run_pure, e2, hf']
                  simp [newRow]
                · exact cells_obj rc hall _ _ _ (by rw [rc.length]; simp) _ (Nat.le_refl _) (fun _ _ => rfl) 0 0 (by omega)
              · obtain ⟨c', hf, rc⟩ := fill_sound rp hcs rzz
                refine ⟨.slice (some ⟨w.heap.size, 0, none⟩) len len, .cells c' el, w.drawn, ⟨w.heap.size, 0, c'.size⟩, ?_, rfl, ?_, fun E' hE => .sl b 0 len _ len hE (Nat.le_refl _)⟩
                · refine wrap (ρ := evT tmps) ?_
                  have hf' : Instr.fill (fun i => some (i * n, n)) ((Array.range (len * n)).map ((z'.cells)[· % z'.cells.size]!)) (parts.map fun p => (p.1, evT tmps p.2)).toList = some c' := by simpa using hf
                  simp only [Instr.buildSlice, Sem.run_bind, run_underlying hu, run_szT hn, Result.andThen_ok, if_neg hl24, Sem.run_ite, if_neg h0, hz', Sem.run_pure, hf']
                  simp [newRow]
                · exact cells_obj rc hall _ _ _ (by rw [rc.length]; simp) _ (Nat.le_refl _) (fun _ _ => rfl) 0 0 (by omega)
            · cases ha
          · cases ha
        · cases ha
      · cases ha
    · cases ha
  | makeMap t res =>
    have key : ∀ b, h.new (.map []) = some (b, h1) → v = .map b → (∀ (E : Env) (w : World) (tmps : Array Value), GL E gl → TR E nt tm tmps → (Instr.makeMap t (res.map (evT tmps))).run P w = .ok (.map (some w.heap.size)) { w with heap := w.heap.push (.map #[] 0) }) →
        ∃ b ob, h.new ob = some (b, h1) ∧ AllocR P gl nt tm ⟨dst, .makeMap t res, ty, pos, after, guard⟩ b ob v := by
      rintro b hn rfl hrun
      refine ⟨b, _, hn, fun E w tmps hg r => ?_⟩
      refine ⟨_, .map #[] 0, w.drawn, ⟨w.heap.size, 0, 0⟩, wrap (ρ := evT tmps) (hrun E w tmps hg r), rfl, ⟨#[], 0, by simp, .nil⟩, fun E' hE => .map b _ hE⟩
    simp only [aalloc] at ha
    split at ha
    · obtain ⟨b, hn, rfl⟩ := map_new (f := fun b => V.map b) ha
      exact key b hn rfl fun E w tmps hg r => by simp [Instr.makeMap]
    · rename_i x
      split at ha
      · rename_i k el kk nn hu hx
        obtain ⟨b, hn, rfl⟩ := map_new (f := fun b => V.map b) ha
        refine key b hn rfl fun E w tmps hg r => ?_
        have := ev_sound hg r hx
        cases hcv : evT tmps x <;> rw [hcv] at this <;> cases this
        simp [Instr.makeMap, run_underlying hu, hcv, asInt, asIntOf]
      · cases ha
  | makeSlice t l c =>
    simp only [aalloc] at ha
    split at ha
    · rename_i el l' c' hu hl hc
      split at ha
      · rename_i n z i hn hz hi
        split at ha
        · rename_i hcond
          obtain ⟨q1, q2, q3, q4, q5, q6⟩ := hcond
          obtain ⟨b, hnew, rfl⟩ := map_new (f := fun b => V.sl b 0 l' (.ex c')) ha
          refine ⟨b, _, hnew, fun E w tmps hg r => ?_⟩
          cases hlv : ev gl tm l with
          | none => rw [hlv] at hl; cases hl
          | some lv =>
          cases hcv : ev gl tm c with
          | none => rw [hcv] at hc; cases hc
          | some cv =>
          rw [hlv] at hl; rw [hcv] at hc
          obtain ⟨k1, _, e1⟩ := asIdx_sound hl (ev_sound hg r hlv)
          obtain ⟨k2, _, e2⟩ := asIdx_sound hc (ev_sound hg r hcv)
          obtain ⟨z', hz', rz⟩ := run_zeroT E hz w
          have rzz := zeros_sound rz.cells c' n q5
          have w1 := wrap_small q3
          have w2 := wrap_small (show l' ≤ 65536 by omega)
          have hb : ¬ (i.bytes : Int) * (c' : Int) > 2 ^ 48 := by
            have : i.bytes * c' ≤ 65536 * 65536 := Nat.mul_le_mul q4 q3
            have e3 : ((i.bytes * c' : Nat) : Int) = (i.bytes : Int) * (c' : Int) := Int.natCast_mul ..
            rw [← e3]
            generalize i.bytes * c' = mm at *
            omega
          have hb' : ¬ (281474976710656 : Int) < (i.bytes : Int) * (c' : Int) := hb
          have er : Array.range 0 = #[] := by simp
          have hlc : ¬ ((l' : Int) > (c' : Int)) := by omega
          have hl0 : ¬ ((l' : Int) < 0) := by omega
          have hc0 : ¬ ((c' : Int) < 0) := by omega
          by_cases h0 : c' * n = 0
          · have e : (Array.range (c' * n)).map ((z'.cells)[· % z'.cells.size]!) = #[] := by rw [h0]; simp
            rw [e] at rzz
            refine ⟨.slice (some ⟨w.heap.size, 0, none⟩) l' c', .cells #[] el, w.drawn, ⟨w.heap.size, 0, 0⟩, ?_, rfl, ?_, fun E' hE => .sl b 0 l' _ c' hE q1⟩
            · refine wrap (ρ := evT tmps) ?_
              simp [Instr.makeSlice, run_underlying hu, e1, e2, asInt, asIntOf, run_info hi, w1, w2, hb', er, hlc, hl0, hc0, run_szT hn, h0, newRow]
            · exact cells_obj rzz (zeros_all q6 _) _ _ _ (by rw [zeros_length, q5, h0]; omega) _ (by simp) (fun _ _ => rfl) 0 0 (by omega)
          · refine ⟨.slice (some ⟨w.heap.size, 0, none⟩) l' c', .cells ((Array.range (c' * n)).map ((z'.cells)[· % z'.cells.size]!)) el, w.drawn, ⟨w.heap.size, 0, c' * n⟩, ?_, rfl, ?_, fun E' hE => .sl b 0 l' _ c' hE q1⟩
            · refine wrap (ρ := evT tmps) ?_
              simp [Instr.makeSlice, run_underlying hu, e1, e2, asInt, asIntOf, run_info hi, w1, w2, hb', er, hlc, hl0, hc0, run_szT hn, h0, newRow, hz']
            · exact cells_obj rzz (zeros_all q6 _) _ _ _ (by rw [zeros_length, q5]; omega) _ (by simp) (fun _ _ => rfl) 0 0 (by omega)
        · cases ha
      · cases ha
    · cases ha
  | convert s d x =>
    simp only [aalloc] at ha
    split at ha
    · rename_i ds el bs hs hd hx
      split at ha
      · rename_i hel
        obtain ⟨b, hnew, rfl⟩ := map_new (f := fun b => V.sl b 0 bs.length (.op 1)) ha
        refine ⟨b, _, hnew, fun E w tmps hg r => ?_⟩
        have := ev_sound hg r hx
        cases hcv : evT tmps x <;> rw [hcv] at this <;> cases this
        rename_i y e
        have hy : y.size = bs.length := by rw [← e, List.length_map, Array.length_toList]; rfl
        let c : Array Value := (y.data.map fun b => Value.int .u8 b.toNat)
        let cap : Nat := (Question.appendCap y.size 0 el).cut (w.tape w.drawn (.appendCap y.size 0 el))
        have hcap : y.size ≤ cap := Nat.le_add_right _ _
        have hcs : c.size = y.size := by simp [c]
        let c2 : Array Value := c ++ Array.replicate (cap - y.size) (.int .u8 0)
        have hc2 : c2.size = cap := by simp [c2, hcs]; omega
        have rc : ARs E (bs.map fun n : Nat => V.int .u8 n) c.toList := by
          refine ARs.of_get (by simp [c, ← hy]) fun i v hv => ?_
          rw [List.getElem?_map] at hv
          cases hbi : bs[i]? with
          | none => rw [hbi] at hv; cases hv
          | some nb =>
            rw [hbi] at hv; cases hv
            rw [← e, List.getElem?_map] at hbi
            cases hyi : y.data.toList[i]? with
            | none => rw [hyi] at hbi; cases hbi
            | some u =>
              rw [hyi] at hbi
              have : u.toNat = nb := by simpa using hbi
              refine ⟨.int .u8 u.toNat, by simp [c]; exact ⟨u, by simpa using hyi, rfl⟩, by rw [this]; exact .int _ _⟩
        refine ⟨.slice (some ⟨w.heap.size, 0, none⟩) bs.length cap, .cells c2 el (cap, cap + 1), w.drawn + 1, ⟨w.heap.size, 0, cap⟩, ?_, rfl, ?_, fun E' hE => .slo b 0 bs.length 1 _ cap hE (by simp) (by omega)⟩
        · refine wrap (ρ := evT tmps) ?_
          have hconv : (convert s d (.string y)).run P w = (Conv.stringToBytes el y).run P w := by
            simp [convert, run_underlying hs, run_underlying hd, run_underlying hel]
          rw [hcv, hconv]
          have hsh : ({ w with heap := w.heap.push (.cells c2 el), drawn := w.drawn + 1 } : World).shape? w.heap.size = some (el, cap) := by
            simp [World.shape?, hc2]
          have hfz : ({ w with heap := w.heap.push (.cells c2 el), drawn := w.drawn + 1 } : World).freeze ⟨w.heap.size, cap, none⟩ 1 = { w with heap := w.heap.push (.cells c2 el (cap, cap + 1)), drawn := w.drawn + 1 } := by
            simp only [World.freeze, Nat.one_ne_zero, if_false]
            congr 1
            apply Array.ext_getElem?
            intro k
            rw [Array.getElem?_modify]
            by_cases hk : w.heap.size = k
            · subst hk; simp
            · rw [if_neg hk]
              simp only [Array.getElem?_push]
              rw [if_neg (fun e => hk e.symm), if_neg (fun e => hk e.symm)]
          have hq : (Question.appendCap y.size 0 el).forced = false := rfl
          have hrun : (newRow el (c ++ Array.replicate (cap - y.size) (Value.int .u8 0))).run P { w with drawn := w.drawn + 1 } = .ok ⟨w.heap.size, 0, none⟩ { w with heap := w.heap.push (.cells c2 el), drawn := w.drawn + 1 } := by
            rfl
          have hmk : (markStringish ⟨w.heap.size, 0, none⟩).run P { w with heap := w.heap.push (.cells c2 el), drawn := w.drawn + 1 } = .ok () { w with heap := w.heap.push (.cells c2 el (cap, cap + 1)), drawn := w.drawn + 1 } := by
            simp only [markStringish, Sem.run_bind, run_shape, Result.andThen_ok, hsh, run_freeze, hfz]
          simp only [Conv.stringToBytes, Sem.run_bind, run_choose, hq, Bool.false_eq_true, if_false, Result.andThen_ok]
          rw [show (Array.map (fun b : UInt8 => Value.int .u8 (b.toNat : Int)) y.data ++ Array.replicate (cap - y.size) (Value.int .u8 0)) = c ++ Array.replicate (cap - y.size) (Value.int .u8 0) from rfl, hrun]
          simp only [Result.andThen_ok, hmk, Sem.run_pure]
          rw [← hy]
        · exact cells_obj rc (by simp [V.isCell]) _ _ _ (by simp; omega) _ (by rw [hc2]; exact Nat.le_refl _) (fun i hi => by
            simp only [c2]
            rw [Array.getElem?_append_left (by rw [hcs, hy]; simpa using hi)]) _ _ (by omega)
      · cases ha
    · cases ha
  | _ => simp [aalloc] at ha
end
end Go.AM
