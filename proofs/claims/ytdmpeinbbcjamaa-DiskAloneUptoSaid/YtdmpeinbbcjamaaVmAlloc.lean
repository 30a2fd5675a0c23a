/- The machine of values: operations that make memory. -/
import Derived.Test.YtdmpeinbbcjamaaVmLight2
set_option linter.unusedVariables false
set_option linter.unusedSimpArgs false
namespace Go.VM
open Go.RowKit
variable {P : Program}

def zeros (z : List V) : Nat → List V
  | 0 => []
  | n + 1 => z ++ zeros z n

theorem zeros_length (z : List V) : ∀ k, (zeros z k).length = k * z.length
  | 0 => by simp [zeros]
  | k + 1 => by simp [zeros, zeros_length z k, Nat.add_mul]; omega

theorem zeros_get (z : List V) : ∀ (k i : Nat), i < k * z.length → (zeros z k)[i]? = z[i % z.length]?
  | 0, i, h => by simp at h
  | k + 1, i, h => by
    rw [zeros]
    by_cases hi : i < z.length
    · rw [List.getElem?_append_left hi, Nat.mod_eq_of_lt hi]
    · rw [List.getElem?_append_right (by omega), zeros_get z k _ (by rw [Nat.add_mul] at h; omega)]
      congr 1
      exact (Nat.mod_eq_sub_mod (by omega)).symm

theorem zeros_sound {E : Env} {z : List V} {z' : Array Value} (r : ARs E z z'.toList) (k n : Nat) (hn : z.length = n) :
    ARs E (zeros z k) ((Array.range (k * n)).map (z'[· % z'.size]!)).toList := by
  have hz : z'.size = n := by have := r.length; simp at this; omega
  refine ARs.of_get (by rw [zeros_length, hn]; simp) fun i v hi => ?_
  have hlt : i < k * n := by
    rcases Nat.lt_or_ge i (k * n) with g | g
    · exact g
    · rw [List.getElem?_eq_none (by rw [zeros_length, hn]; exact g)] at hi; cases hi
  rw [zeros_get z k i (by rw [hn]; exact hlt), hn] at hi
  obtain ⟨v', h1, h2⟩ := r.get _ _ hi
  refine ⟨v', ?_, h2⟩
  have h1' : z'[i % n]? = some v' := by simpa using h1
  have hlt2 : i % n < z'.size := by
    rcases Nat.lt_or_ge (i % n) z'.size with g | g
    · exact g
    · rw [Array.getElem?_eq_none g] at h1'; cases h1'
  rw [Array.getElem?_toList, Array.getElem?_map, Array.getElem?_range, if_pos hlt, Option.map_some, hz, getElem!_pos z' (i % n) hlt2]
  rw [Array.getElem?_eq_getElem hlt2] at h1'
  exact h1'

theorem zeros_all {z : List V} (h : z.all V.isCell = true) : ∀ k, (zeros z k).all V.isCell = true
  | 0 => rfl
  | k + 1 => by rw [zeros, List.all_append, h, zeros_all h k]; rfl

/-! ### what is made -/
/-- elements, given one by one. -/
def partsEs (sz : Nat) : Nat → List (Nat × V) → Option (List (List V))
  | _, [] => some []
  | i, (j, v) :: r => match Nat.beq i j && Nat.beq v.cells.length sz && v.cells.all V.isCell with
    | true => (partsEs sz (i + 1) r).map (v.cells :: ·)
    | false => none

/-- a new object, at an id. -/
def rah (gl : List Nat) (tm : TM) (b : Nat) : RO → Option (V × Obj)
  | .al z => match z.all V.isCell with
    | true => some (.ptr b 0, .cells false z)
    | false => none
  | .bx x => match rv gl tm x with
    | some v => match v.cells.all V.isCell with
      | true => some (.ptr b 0, .cells false v.cells)
      | false => none
    | none => none
  | .mm none => some (.map b, .map [])
  | .mm (some x) => match rv gl tm x with
    | some (.int _ _) => some (.map b, .map [])
    | _ => none
  | .ms l c sz z => match (rv gl tm l).bind asIdx, (rv gl tm c).bind asIdx with
    | some l, some c => if l ≤ c ∧ c * sz ≤ 65536 ∧ c ≤ 65536 ∧ z.all V.isCell = true then some (.sl b 0 l (.ex c), .cells false (zeros z c)) else none
    | _, _ => none
  | .bs sz len z parts => match rvp gl tm parts with
    | some ps => match fillV (fun i => some (i * sz, sz)) (zeros z len) ps with
      | some cs => match cs.all V.isCell with
        | true => some (.sl b 0 len (.ex len), .cells false cs)
        | false => none
      | none => none
    | none => none
  | .csb x => match rv gl tm x with
    | some (.str bs) => some (.sl b 0 bs.length (.op 1), .cells true (bs.map fun (n : Nat) => V.int .u8 n))
    | _ => none
  | _ => none

/-- a new list, which never changes. -/
def raf (gl : List Nat) (tm : TM) : RO → Option V
  | .bs sz len z parts => match rvp gl tm parts with
    | some ps => match partsEs sz 0 ps with
      | some es => match Nat.beq es.length len with
        | true => some (.lst (es.map (·.map V.clean1)) (.ex len))
        | false => none
      | none => none
    | none => none
  | .csb x => match rv gl tm x with
    | some (.str bs) => some (.lst (bs.map fun (n : Nat) => [V.int .u8 n]) .unk)
    | _ => none
  | _ => none

/-- a new variable. -/
def ral (gl : List Nat) (tm : TM) : RO → Option (List V)
  | .al z => match z.all V.isCell with
    | true => some z
    | false => none
  | .bx x => match rv gl tm x with
    | some v => match v.cells.all V.isCell with
      | true => some v.cells
      | false => none
    | none => none
  | _ => none

/-! ### the model makes it -/
/-- a row of cells that was just made. -/
theorem cells_obj {E : Env} {w : World} {l : List V} {c : Array Value} (r : ARs E l c.toList) (hc : l.all V.isCell = true) (t : TypeId) (ext : Nat) (h1 : l.length ≤ ext) (c2 : Array Value) (h2 : ext ≤ c2.size)
    (h3 : ∀ i, i < l.length → c2[i]? = c[i]?) (lo hi : Nat) (h4 : ∀ i, i < c2.size → ¬ (lo ≤ i ∧ i < hi)) :
    CellsR E l ⟨w.heap.size, 0, ext⟩ { w with heap := w.heap.push (.cells c2 t (lo, hi)) } := by
  refine ⟨c2, t, lo, hi, by simp, h4, by simpa using h2, h1, fun i v hv => ?_⟩
  have hi' : i < l.length := (List.getElem?_eq_some_iff.1 hv).1
  obtain ⟨v', a, b⟩ := r.get i v hv
  refine ⟨List.all_eq_true.1 hc v (List.mem_of_getElem? hv), v', ?_, b⟩
  rw [Nat.zero_add, h3 i hi']; simpa using a

/-- what a new object comes to. -/
def AllocO (P : Program) (gl : List Nat) (nt : Nat) (tm : TM) (o : Oper) (b : Nat) (ob : Obj) (v : V) : Prop :=
  ∀ (E : Env) (L : Nat → Option Place) (w : World) (tmps : Array Value), GL E gl → TR E L nt tm tmps →
    ∃ v' cob n p, (execOp (evT tmps) o).run P w = .ok (.value v') { w with heap := w.heap.push cob, drawn := n } ∧ p.blk = w.heap.size ∧
      ObjR E ob p { w with heap := w.heap.push cob } ∧ ∀ E' : Env, E'.ob b = some p → AR E' v v'

/-- what a new list comes to. -/
def AllocF (P : Program) (gl : List Nat) (nt : Nat) (tm : TM) (o : Oper) (v : V) : Prop :=
  ∀ (E : Env) (L : Nat → Option Place) (w : World) (tmps : Array Value), GL E gl → TR E L nt tm tmps →
    ∃ v' c el q n cnt, (execOp (evT tmps) o).run P w = .ok (.value v') { w with heap := w.heap.push (.cells c el q), drawn := n } ∧
      ∀ E' : Env, E.le E' → (∀ i x, i < cnt → c[i]? = some x → E'.fz w.heap.size i = some x) → AR E' v v'

/-- what a new variable comes to. -/
def AllocL (P : Program) (gl : List Nat) (nt : Nat) (tm : TM) (o : Oper) (cs : List V) : Prop :=
  ∀ (E : Env) (L : Nat → Option Place) (w : World) (tmps : Array Value), GL E gl → TR E L nt tm tmps →
    ∃ cob p, (execOp (evT tmps) o).run P w = .ok (.value (.pointer (some ⟨w.heap.size, 0, none⟩))) { w with heap := w.heap.push cob } ∧ p.blk = w.heap.size ∧ p.off = 0 ∧ CellsR E cs p { w with heap := w.heap.push cob }

theorem partsEs_spec {sz : Nat} : ∀ {i : Nat} {ps : List (Nat × V)} {es : List (List V)}, partsEs sz i ps = some es → (∀ e ∈ es, e.length = sz ∧ e.all V.isCell = true) ∧
    ∀ (pre : List V) (z : List V), z.length = sz → pre.length = i * sz → fillV (fun i => some (i * sz, sz)) (pre ++ zeros z es.length) ps = some (pre ++ es.flatten)
  | i, [], es, h => by
    simp [partsEs] at h; subst h
    exact ⟨by simp, fun pre z hz hp => by simp [fillV, zeros]⟩
  | i, (j, v) :: r, es, h => by
    simp only [partsEs] at h
    split at h
    · rename_i hc
      simp only [Bool.and_eq_true] at hc
      obtain ⟨⟨h1, h2⟩, h3⟩ := hc
      have h1 := Nat.eq_of_beq_eq_true h1
      have h2 := Nat.eq_of_beq_eq_true h2
      subst h1
      cases hr : partsEs sz (i + 1) r with
      | none => rw [hr] at h; cases h
      | some es' =>
        rw [hr] at h; cases h
        obtain ⟨a, b⟩ := partsEs_spec hr
        refine ⟨fun e he => ?_, fun pre z hz hp => ?_⟩
        · cases he with
          | head => exact ⟨h2, h3⟩
          | tail _ he => exact a e he
        · have hb := b (pre ++ v.cells) z hz (by simp [hp, h2, Nat.add_mul])
          simp only [fillV]
          rw [h2]
          simp only [decide_true]
          rw [putC_of (by simp [zeros_length, hp, h2, hz, Nat.add_mul])]
          have e1 : (pre ++ zeros z (es'.length + 1)).take (i * sz) = pre := by rw [← hp]; simp
          have e2 : (pre ++ zeros z (es'.length + 1)).drop (i * sz + v.cells.length) = zeros z es'.length := by
            rw [← hp, List.drop_append, h2]
            simp [zeros, ← hz]
          simp only [List.length_cons]
          rw [e1, e2, hb]; simp
    · cases h

theorem wrapV {s : Sem Value} {v' : Value} {w w' : World} (hs : s.run P w = .ok v' w') : (do pure (Next.value (← s)) : Sem Next).run P w = .ok (.value v') w' := by simp [hs]

/-! ### kinds -/
/-- 0: changes nothing; 1: makes memory; 2: a store; 3: all else. -/
def kindRO : RO → Nat
  | .al _ | .bx _ | .bs .. | .mm _ | .ms .. | .csb _ => 1
  | .st .. => 2
  | .app .. => 4
  | .call .. | .reco | .del .. | .clr .. | .dfr .. | .pan _ | .mu .. => 3
  | _ => 0

def kindOp : Op → Nat → Bool
  | .alloc _, k | .box _ _, k | .buildSlice .., k | .makeMap .., k | .makeSlice .., k => k == 1
  | .convert .., k => k == 0 || k == 1
  | .store .., k => k == 2
  | .call c, k => match c.callee with
    | .builtin b => (match b with | .len | .cap | .max | .min => k == 0 | .append => k == 4 | _ => k == 3)
    | _ => k == 3
  | .defer _, k | .panic _, k | .mapUpdate .., k | .insert .., k => k == 3
  | _, k => k == 0

theorem rop_kind {o : Oper} {ro : RO} (h : rop P o = some ro) : kindOp o.op (kindRO ro) = true := by
  obtain ⟨dst, op, ty, pos, after, guard⟩ := o
  cases op with
  | call c =>
    obtain ⟨callee, args, argTypes⟩ := c
    cases callee with
    | value f =>
      simp only [rop] at h
      split at h <;> cases h; rfl
    | invoke f n => simp [rop] at h
    | builtin b =>
      simp only [rop] at h
      unfold rbuiltin at h
      split at h
      · split at h <;> cases h <;> rfl
      · split at h <;> cases h; rfl
      · split at h <;> cases h; rfl
      · split at h <;> cases h; rfl
      · split at h
        · split at h
          · split at h
            · cases h
            · split at h
              · split at h <;> cases h; rfl
              · cases h
          · cases h
        · cases h
      · split at h <;> cases h; rfl
      · split at h
        · simp only [Option.map_eq_some_iff] at h; obtain ⟨_, _, rfl⟩ := h; rfl
        · cases h
      · split at h
        · simp only [Option.map_eq_some_iff] at h; obtain ⟨_, _, rfl⟩ := h; rfl
        · cases h
      · cases h
  | defer c =>
    obtain ⟨callee, args, argTypes⟩ := c
    cases callee with
    | value f => simp only [rop] at h; split at h <;> cases h; rfl
    | invoke f n => simp [rop] at h
    | builtin b => simp [rop] at h
  | binOp op t x y yt =>
    have h1 : ∀ neg, reqn P neg t x y = some ro → kindRO ro = 0 := by
      intro neg h
      unfold reqn at h
      split at h
      · split at h
        · simp only [Option.map_eq_some_iff] at h; obtain ⟨_, _, rfl⟩ := h; rfl
        · cases h
      · split at h
        · simp only [Option.map_eq_some_iff] at h; obtain ⟨_, _, rfl⟩ := h; rfl
        · cases h
      · split at h <;> cases h; rfl
    have h2 : kindRO ro = 0 := by
      simp only [rop, rbin] at h
      split at h
      · exact h1 _ h
      · exact h1 _ h
      · split at h <;> cases h; rfl
    simp [kindOp, h2]
  | convert s d x =>
    simp only [rop, rconv] at h
    split at h
    · cases h; rfl
    · cases h; rfl
    · split at h <;> cases h; rfl
    · split at h <;> cases h; rfl
    · cases h
  | slice t x lo hi mx =>
    simp only [rop] at h
    obtain ⟨_, _, _, _, _, _, _, _, _, rfl, _⟩ := rslice_spec h; rfl
  | makeFunc fn first cap =>
    cases fn with
    | func g => simp only [rop] at h; split at h <;> cases h; rfl
    | _ => simp [rop] at h
  | _ =>
    simp only [rop] at h
    first
      | (cases h; done)
      | (simp only [Option.map_eq_some_iff] at h; obtain ⟨_, _, rfl⟩ := h; rfl)
      | (split at h <;> first | (cases h; done) | (cases h; rfl) | (simp only [Option.map_eq_some_iff, Option.bind_eq_some_iff] at h; obtain ⟨_, _, rfl⟩ := h; rfl) |
          (simp only [Option.map_eq_some_iff, Option.bind_eq_some_iff] at h; obtain ⟨_, _, h⟩ := h; first | (obtain ⟨_, _, rfl⟩ := h; rfl) | (split at h <;> cases h; rfl)) |
          (split at h <;> first | (cases h; done) | (cases h; rfl) | (simp only [Option.map_eq_some_iff] at h; obtain ⟨_, _, rfl⟩ := h; rfl) | (split at h <;> cases h; rfl)))

theorem rah_kind {gl : List Nat} {tm : TM} {b : Nat} {ro : RO} {r : V × Obj} (h : rah gl tm b ro = some r) : kindRO ro = 1 := by
  unfold rah at h
  split at h <;> first | rfl | cases h

section
variable {gl : List Nat} {nt : Nat} {tm : TM}

theorem run_alloc {E : Env} {t : TypeId} {z : V} {ρ : Operand → Value} {dst : Option Tmp} {ty : TypeId} {pos : String} {after : Array Edge} {guard : Option (Nat × Bool)} (hz : zeroT P t = some z) (w : World) :
    ∃ z' : Array Value, ARs E z.cells z'.toList ∧ (execOp ρ ⟨dst, .alloc t, ty, pos, after, guard⟩).run P w = .ok (.value (.pointer (some ⟨w.heap.size, 0, none⟩))) { w with heap := w.heap.push (.cells z' t) } := by
  obtain ⟨z', hz', rz⟩ := run_zeroT E hz w
  refine ⟨z'.cells, rz.cells, wrapV ?_⟩
  simp [Instr.alloc, hz', newVar, newRow]

theorem run_box {t : TypeId} {x : Operand} {ρ : Operand → Value} {dst : Option Tmp} {ty : TypeId} {pos : String} {after : Array Edge} {guard : Option (Nat × Bool)} (w : World) :
    (execOp ρ ⟨dst, .box t x, ty, pos, after, guard⟩).run P w = .ok (.value (.pointer (some ⟨w.heap.size, 0, none⟩))) { w with heap := w.heap.push (.cells (ρ x).cells t) } := by
  refine wrapV ?_
  simp [Instr.box, newVar, newRow]

theorem run_buildSlice {E : Env} {t el : TypeId} {len n : Nat} {parts : Array (Nat × Value)} {ps : List (Nat × V)} {z : V} {cs : List V} (hu : P.underlying t = some (.slice el)) (hn : szT P el = some n) (hz : zeroT P el = some z) (hl : len * n ≤ 65536) (hzl : z.cells.length = n)
    (rp : PsR E ps parts.toList) (hf : fillV (fun i => some (i * n, n)) (zeros z.cells len) ps = some cs) (w : World) :
    ∃ c' : Array Value, ARs E cs c'.toList ∧ (Instr.buildSlice t len parts).run P w = .ok (.slice (some ⟨w.heap.size, 0, none⟩) len len) { w with heap := w.heap.push (.cells c' el) } := by
  obtain ⟨z', hz', rz⟩ := run_zeroT E hz w
  have rzz := zeros_sound rz.cells len n hzl
  have hl24 : ¬ len * n > 2 ^ 24 := by omega
  by_cases h0 : len * n = 0
  · have e : (Array.range (len * n)).map ((z'.cells)[· % z'.cells.size]!) = #[] := by rw [h0]; simp
    rw [e] at rzz
    obtain ⟨c', hf', rc⟩ := fill_sound rp hf rzz
    refine ⟨c', rc, ?_⟩
    have hf2 : Instr.fill (fun i => some (i * n, n)) #[] parts.toList = some c' := by simpa using hf'
    have e2 : (Array.range (len * n)).map ((#[] : Array Value)[· % (#[] : Array Value).size]!) = #[] := by rw [h0]; simp
    simp only [Instr.buildSlice, Sem.run_bind, run_underlying hu, run_szT hn, Result.andThen_ok, if_neg hl24, Sem.run_ite, if_pos h0, Sem.run_pure, e2, hf2]
    simp [newRow]
  · obtain ⟨c', hf', rc⟩ := fill_sound rp hf rzz
    refine ⟨c', rc, ?_⟩
    have hf2 : Instr.fill (fun i => some (i * n, n)) ((Array.range (len * n)).map ((z'.cells)[· % z'.cells.size]!)) parts.toList = some c' := by simpa using hf'
    simp only [Instr.buildSlice, Sem.run_bind, run_underlying hu, run_szT hn, Result.andThen_ok, if_neg hl24, Sem.run_ite, if_neg h0, hz', Sem.run_pure, hf2]
    simp [newRow]

theorem run_csb {s d el : TypeId} {y : ByteArray} (hs : P.underlying s = some .string) (hd : P.underlying d = some (.slice el)) (hel : P.underlying el = some (.int .u8)) (w : World) :
    ∃ cap c2 n, y.size ≤ cap ∧ c2.size = cap ∧ (∀ i, i < y.size → c2[i]? = (y.data.map fun b => Value.int .u8 b.toNat)[i]?) ∧ (convert s d (.string y)).run P w = .ok (.slice (some ⟨w.heap.size, 0, none⟩) y.size cap) { w with heap := w.heap.push (.cells c2 el (cap, cap + 1)), drawn := n } := by
  let c : Array Value := (y.data.map fun b => Value.int .u8 b.toNat)
  let cap : Nat := (Question.appendCap y.size 0 el).cut (w.tape w.drawn (.appendCap y.size 0 el))
  have hcap : y.size ≤ cap := Nat.le_add_right _ _
  have hcs : c.size = y.size := by simp [c]
  let c2 : Array Value := c ++ Array.replicate (cap - y.size) (.int .u8 0)
  have hc2 : c2.size = cap := by simp [c2, hcs]; omega
  refine ⟨cap, c2, w.drawn + 1, hcap, hc2, fun i hi => by simp only [c2]; rw [Array.getElem?_append_left (by rw [hcs]; exact hi)], ?_⟩
  have hconv : (convert s d (.string y)).run P w = (Conv.stringToBytes el y).run P w := by
    simp [convert, run_underlying hs, run_underlying hd, run_underlying hel]
  rw [hconv]
  have hsh : ({ w with heap := w.heap.push (.cells c2 el), drawn := w.drawn + 1 } : World).shape? w.heap.size = some (el, cap) := by
    simp [World.shape?, hc2]
  have hfz : ({ w with heap := w.heap.push (.cells c2 el), drawn := w.drawn + 1 } : World).freeze ⟨w.heap.size, cap, none⟩ 1 = { w with heap := w.heap.push (.cells c2 el (cap, cap + 1)), drawn := w.drawn + 1 } := by
    simp only [World.freeze, Nat.one_ne_zero, if_false]
    congr 1
    apply Array.ext_getElem?
    intro k
    rw [Array.getElem?_modify]
    by_cases hk : w.heap.size = k
    · subst hk; simp
    · rw [if_neg hk]
      simp only [Array.getElem?_push]
      rw [if_neg (fun e => hk e.symm), if_neg (fun e => hk e.symm)]
  have hq : (Question.appendCap y.size 0 el).forced = false := rfl
  have hrun : (newRow el (c ++ Array.replicate (cap - y.size) (Value.int .u8 0))).run P { w with drawn := w.drawn + 1 } = .ok ⟨w.heap.size, 0, none⟩ { w with heap := w.heap.push (.cells c2 el), drawn := w.drawn + 1 } := by
    rfl
  have hmk : (markStringish ⟨w.heap.size, 0, none⟩).run P { w with heap := w.heap.push (.cells c2 el), drawn := w.drawn + 1 } = .ok () { w with heap := w.heap.push (.cells c2 el (cap, cap + 1)), drawn := w.drawn + 1 } := by
    simp only [markStringish, Sem.run_bind, run_shape, Result.andThen_ok, hsh, run_freeze, hfz]
  simp only [Conv.stringToBytes, Sem.run_bind, run_choose, hq, Bool.false_eq_true, if_false, Result.andThen_ok]
  rw [show (Array.map (fun b : UInt8 => Value.int .u8 (b.toNat : Int)) y.data ++ Array.replicate (cap - y.size) (Value.int .u8 0)) = c ++ Array.replicate (cap - y.size) (Value.int .u8 0) from rfl, hrun]
  simp only [Result.andThen_ok, hmk, Sem.run_pure]
  rfl

theorem bytes_ARs {E : Env} {bs : List Nat} {y : ByteArray} (e : y.data.toList.map UInt8.toNat = bs) : ARs E (bs.map fun n : Nat => V.int .u8 n) (y.data.map fun b => Value.int .u8 b.toNat).toList := by
  refine ARs.of_get (by rw [← e]; simp) fun i v hv => ?_
  rw [List.getElem?_map] at hv
  cases hbi : bs[i]? with
  | none => rw [hbi] at hv; cases hv
  | some nb =>
    rw [hbi] at hv; cases hv
    rw [← e, List.getElem?_map] at hbi
    cases hyi : y.data.toList[i]? with
    | none => rw [hyi] at hbi; cases hbi
    | some u =>
      rw [hyi] at hbi
      have : u.toNat = nb := by simpa using hbi
      refine ⟨.int .u8 u.toNat, by simp; exact ⟨u, by simpa using hyi, rfl⟩, by rw [this]; exact .int _ _⟩

set_option maxHeartbeats 1000000 in
theorem rah_sound {o : Oper} {ro : RO} {b : Nat} {v : V} {ob : Obj} (ho : rop P o = some ro) (ha : rah gl tm b ro = some (v, ob)) : AllocO P gl nt tm o b ob v ∧ ∀ n, ob ≠ .tok n := by
  obtain ⟨dst, op, ty, pos, after, guard⟩ := o
  cases op with
  | alloc t =>
    simp only [rop] at ho
    cases hz : zeroT P t with
    | none => rw [hz] at ho; cases ho
    | some z =>
      rw [hz] at ho; cases ho
      simp only [rah] at ha
      split at ha
      · rename_i hall
        cases ha
        refine ⟨fun E L w tmps hg r => ?_, by simp⟩
        obtain ⟨z', rz, hrun⟩ := run_alloc (P := P) (E := E) hz w
        exact ⟨_, _, w.drawn, ⟨w.heap.size, 0, z'.size⟩, hrun, rfl, cells_obj rz hall _ _ (by rw [rz.length]; simp) _ (Nat.le_refl _) (fun _ _ => rfl) 0 0 (by omega), fun E' hE => .ptr b 0 _ hE⟩
      · cases ha
  | box t x =>
    simp only [rop] at ho
    cases hx : rx x with
    | none => rw [hx] at ho; cases ho
    | some y =>
      rw [hx] at ho; cases ho
      simp only [rah] at ha
      split at ha
      · rename_i u hu
        split at ha
        · rename_i hall
          cases ha
          refine ⟨fun E L w tmps hg r => ?_, by simp⟩
          have rc := (rv_sound hg r hx hu).cells
          exact ⟨_, _, w.drawn, ⟨w.heap.size, 0, (evT tmps x).cells.size⟩, run_box w, rfl, cells_obj rc hall _ _ (by rw [rc.length]; simp) _ (Nat.le_refl _) (fun _ _ => rfl) 0 0 (by omega), fun E' hE => .ptr b 0 _ hE⟩
        · cases ha
      · cases ha
  | buildSlice t len parts =>
    simp only [rop] at ho
    split at ho
    · rename_i el ps hu hps
      split at ho
      · rename_i n z hn hz
        split at ho
        · rename_i hc
          simp only [Bool.and_eq_true] at hc
          have h1 := Nat.le_of_ble_eq_true hc.1
          have h2 := Nat.eq_of_beq_eq_true hc.2
          cases ho
          simp only [rah] at ha
          split at ha
          · rename_i vs hvs
            split at ha
            · rename_i cs hcs
              split at ha
              · rename_i hall
                cases ha
                refine ⟨fun E L w tmps hg r => ?_, by simp⟩
                have rp := rvp_sound hg r hps hvs
                have hpa : (parts.map fun p => (p.1, evT tmps p.2)).toList = parts.toList.map fun p => (p.1, evT tmps p.2) := by simp
                obtain ⟨c', rc, hrun⟩ := run_buildSlice (parts := parts.map fun p => (p.1, evT tmps p.2)) hu hn hz h1 h2 (by rw [hpa]; exact rp) hcs w
                exact ⟨_, _, w.drawn, ⟨w.heap.size, 0, c'.size⟩, wrapV hrun, rfl, cells_obj rc hall _ _ (by rw [rc.length]; simp) _ (Nat.le_refl _) (fun _ _ => rfl) 0 0 (by omega), fun E' hE => .sl b 0 len _ len hE (Nat.le_refl _)⟩
              · cases ha
            · cases ha
          · cases ha
        · cases ho
      · cases ho
    · cases ho
  | makeMap t res =>
    have key : v = .map b → ob = .map [] → (∀ (E : Env) (L : Nat → Option Place) (w : World) (tmps : Array Value), GL E gl → TR E L nt tm tmps → (Instr.makeMap t (res.map (evT tmps))).run P w = .ok (.map (some w.heap.size)) { w with heap := w.heap.push (.map #[] 0) }) →
        AllocO P gl nt tm ⟨dst, .makeMap t res, ty, pos, after, guard⟩ b ob v ∧ ∀ n, ob ≠ .tok n := by
      rintro rfl rfl hrun
      refine ⟨fun E L w tmps hg r => ?_, by simp⟩
      exact ⟨_, .map #[] 0, w.drawn, ⟨w.heap.size, 0, 0⟩, wrapV (hrun E L w tmps hg r), rfl, ⟨#[], 0, by simp, .nil⟩, fun E' hE => .map b _ hE⟩
    simp only [rop] at ho
    split at ho
    · cases ho
      simp only [rah] at ha
      cases ha
      exact key rfl rfl fun E L w tmps hg r => by simp [Instr.makeMap]
    · rename_i x
      split at ho
      · rename_i k el y hu hx
        cases ho
        simp only [rah] at ha
        split at ha
        · rename_i kk nn hv
          cases ha
          refine key rfl rfl fun E L w tmps hg r => ?_
          have := rv_sound hg r hx hv
          cases hcv : evT tmps x <;> rw [hcv] at this <;> cases this
          simp [Instr.makeMap, run_underlying hu, hcv, asInt, asIntOf]
        · cases ha
      · cases ho
  | makeSlice t l c =>
    simp only [rop] at ho
    split at ho
    · rename_i el l1 c1 hu hl hc
      split at ho
      · rename_i i z hi hz
        split at ho
        · rename_i hcond
          simp only [Bool.and_eq_true] at hcond
          have q4 := Nat.le_of_ble_eq_true hcond.1
          have q5 := Nat.eq_of_beq_eq_true hcond.2
          cases ho
          have hn : szT P el = some i.size := by simp [szT, hi]
          simp only [rah] at ha
          split at ha
          · rename_i l' c' hlv hcv
            split at ha
            · rename_i hcond
              obtain ⟨q1, q2, q3, q6⟩ := hcond
              cases ha
              refine ⟨fun E L w tmps hg r => ?_, by simp⟩
              cases hlv' : rv gl tm l1 with
              | none => rw [hlv'] at hlv; cases hlv
              | some lv =>
              cases hcv' : rv gl tm c1 with
              | none => rw [hcv'] at hcv; cases hcv
              | some cv =>
              rw [hlv'] at hlv; rw [hcv'] at hcv
              obtain ⟨k1, _, e1⟩ := asIdx_sound hlv (rv_sound hg r hl hlv')
              obtain ⟨k2, _, e2⟩ := asIdx_sound hcv (rv_sound hg r hc hcv')
              obtain ⟨z', hz', rz⟩ := run_zeroT E hz w
              have rzz := zeros_sound rz.cells c' i.size q5
              have w1 := wrap_small q3
              have w2 := wrap_small (show l' ≤ 65536 by omega)
              have hb : ¬ (i.bytes : Int) * (c' : Int) > 2 ^ 48 := by
                have : i.bytes * c' ≤ 65536 * 65536 := Nat.mul_le_mul q4 q3
                have e3 : ((i.bytes * c' : Nat) : Int) = (i.bytes : Int) * (c' : Int) := Int.natCast_mul ..
                rw [← e3]
                generalize i.bytes * c' = mm at *
                omega
              have hb' : ¬ (281474976710656 : Int) < (i.bytes : Int) * (c' : Int) := hb
              have er : Array.range 0 = #[] := by simp
              have hlc : ¬ ((l' : Int) > (c' : Int)) := by omega
              have hl0 : ¬ ((l' : Int) < 0) := by omega
              have hc0 : ¬ ((c' : Int) < 0) := by omega
              by_cases h0 : c' * i.size = 0
              · have e : (Array.range (c' * i.size)).map ((z'.cells)[· % z'.cells.size]!) = #[] := by rw [h0]; simp
                rw [e] at rzz
                refine ⟨.slice (some ⟨w.heap.size, 0, none⟩) l' c', .cells #[] el, w.drawn, ⟨w.heap.size, 0, 0⟩, ?_, rfl, ?_, fun E' hE => .sl b 0 l' _ c' hE q1⟩
                · refine wrapV ?_
                  simp [Instr.makeSlice, run_underlying hu, e1, e2, asInt, asIntOf, run_info hi, w1, w2, hb', er, hlc, hl0, hc0, run_szT hn, h0, newRow]
                · exact cells_obj rzz (zeros_all q6 _) _ _ (by rw [zeros_length, q5, h0]; omega) _ (by simp) (fun _ _ => rfl) 0 0 (by omega)
              · refine ⟨.slice (some ⟨w.heap.size, 0, none⟩) l' c', .cells ((Array.range (c' * i.size)).map ((z'.cells)[· % z'.cells.size]!)) el, w.drawn, ⟨w.heap.size, 0, c' * i.size⟩, ?_, rfl, ?_, fun E' hE => .sl b 0 l' _ c' hE q1⟩
                · refine wrapV ?_
                  simp [Instr.makeSlice, run_underlying hu, e1, e2, asInt, asIntOf, run_info hi, w1, w2, hb', er, hlc, hl0, hc0, run_szT hn, h0, newRow, hz']
                · exact cells_obj rzz (zeros_all q6 _) _ _ (by rw [zeros_length, q5]; omega) _ (by simp) (fun _ _ => rfl) 0 0 (by omega)
            · cases ha
          · cases ha
        · cases ho
      · cases ho
    · cases ho
  | convert s d x =>
    simp only [rop, rconv] at ho
    split at ho
    · cases ho; simp [rah] at ha
    · cases ho; simp [rah] at ha
    · split at ho
      · cases ho; simp [rah] at ha
      · cases ho
    · rename_i el x1 hs hd hx
      split at ho
      · rename_i hel
        cases ho
        simp only [rah] at ha
        split at ha
        · rename_i bs hv
          cases ha
          refine ⟨fun E L w tmps hg r => ?_, by simp⟩
          have := rv_sound hg r hx hv
          cases hcv : evT tmps x <;> rw [hcv] at this <;> cases this
          rename_i y e
          have hy : y.size = bs.length := by rw [← e, List.length_map, Array.length_toList]; rfl
          obtain ⟨cap, c2, n, h1, h2, h3, hrun⟩ := run_csb (P := P) (y := y) hs hd hel w
          refine ⟨.slice (some ⟨w.heap.size, 0, none⟩) y.size cap, .cells c2 el (cap, cap + 1), n, ⟨w.heap.size, 0, cap⟩, ?_, rfl, ?_, fun E' hE => by rw [hy]; exact .slo b 0 bs.length 1 _ cap hE (by simp) (by omega)⟩
          · rw [← hcv] at hrun; exact wrapV hrun
          · exact cells_obj (bytes_ARs e) (by simp [V.isCell]) _ _ (by simp; omega) _ (by rw [h2]; exact Nat.le_refl _) (fun i hi => h3 i (by rw [hy]; simpa using hi)) _ _ (by omega)
        · cases ha
      · cases ho
    · cases ho
  | call c =>
    exfalso
    have h1 := rop_kind ho
    rw [rah_kind ha] at h1
    obtain ⟨callee, args, argTypes⟩ := c
    cases callee with
    | builtin bi => cases bi <;> simp [kindOp] at h1
    | _ => simp [kindOp] at h1
  | _ =>
    exfalso
    have h1 := rop_kind ho
    rw [rah_kind ha] at h1
    simp [kindOp] at h1

theorem raf_kind {ro : RO} {v : V} (h : raf gl tm ro = some v) : kindRO ro = 1 := by
  unfold raf at h
  split at h <;> first | rfl | cases h

theorem ral_kind {ro : RO} {v : List V} (h : ral gl tm ro = some v) : kindRO ro = 1 := by
  unfold ral at h
  split at h <;> first | rfl | cases h

theorem flatten_clean : ∀ es : List (List V), (es.map (·.map V.clean1)).flatten = es.flatten.map V.clean1
  | [] => rfl
  | e :: es => by rw [List.map_cons, List.flatten_cons, flatten_clean es, List.flatten_cons, List.map_append]

theorem flat_len {sz : Nat} : ∀ {es : List (List V)}, (∀ e ∈ es, e.length = sz) → es.flatten.length = es.length * sz
  | [], _ => by simp
  | e :: es, h => by
    have := h e (by simp)
    have := flat_len (es := es) (fun x hx => h x (by simp [hx]))
    simp [*, Nat.add_mul]; omega

theorem all_clean {l : List V} (h : l.all V.isCell = true) : (l.map V.clean1).all V.isCell = true := by
  rw [List.all_eq_true] at h ⊢
  intro x hx
  obtain ⟨y, hy, rfl⟩ := List.mem_map.1 hx
  rw [clean1_isCell]; exact h y hy

/-- a list whose cells were just made. -/
theorem lst_made {E E' : Env} {es : List (List V)} {c : Array Value} {sz B len cap cnt : Nat} {lc : LC} (hle : E.le E') (r : ARs E es.flatten c.toList) (hz : ∀ e ∈ es, e.length = sz) (hall : es.flatten.all V.isCell = true) (hlen : es.length = len)
    (hcnt : len * sz ≤ cnt) (c2 : Array Value) (hc2 : ∀ i, i < len * sz → c2[i]? = c[i]?) (hf : ∀ i x, i < cnt → c2[i]? = some x → E'.fz B i = some x) (hcap : len ≤ cap) (hlc : match lc with | .ex k => cap = k | .unk => True | .nl => False | .nn => False | .tk id => E'.tk id len = some ⟨B, len * sz, (cap - len) * sz⟩ ∧ 0 < len) :
    AR E' (.lst es lc) (.slice (some ⟨B, 0, none⟩) len cap) := by
  subst hlen
  have hfl := flat_len hz
  have hFZ : FZ E' B 0 es.flatten := FZ.of_get fun i v hv => by
    obtain ⟨v', a, b⟩ := r.get i v hv
    have hi : i < es.flatten.length := (List.getElem?_eq_some_iff.1 hv).1
    refine ⟨List.all_eq_true.1 hall v (List.mem_of_getElem? hv), v', ?_, b.mono hle⟩
    rw [Nat.zero_add]
    exact hf i v' (by omega) (by rw [hc2 i (by omega)]; simpa using a)
  cases es with
  | nil =>
    refine .lst0 lc _ cap ?_
    cases lc with
    | ex k => exact hlc
    | unk => trivial
    | tk id => simp at hlc
    | nl => exact hlc.elim
    | nn => exact hlc.elim
  | cons e es =>
    refine .lst e es lc B 0 _ cap sz (FZs.of_flat hz hFZ) rfl hcap ?_
    cases lc with
    | ex k => exact hlc
    | unk => trivial
    | tk id => simpa [CapR] using hlc.1
    | nl => exact hlc.elim
    | nn => exact hlc.elim

set_option maxHeartbeats 1000000 in
theorem raf_sound {o : Oper} {ro : RO} {v : V} (ho : rop P o = some ro) (ha : raf gl tm ro = some v) : AllocF P gl nt tm o v := by
  obtain ⟨dst, op, ty, pos, after, guard⟩ := o
  cases op with
  | alloc t =>
    simp only [rop, Option.map_eq_some_iff] at ho
    obtain ⟨_, _, rfl⟩ := ho; simp [raf] at ha
  | box t x =>
    simp only [rop, Option.map_eq_some_iff] at ho
    obtain ⟨_, _, rfl⟩ := ho; simp [raf] at ha
  | makeMap t res =>
    simp only [rop] at ho
    split at ho
    · cases ho; simp [raf] at ha
    · split at ho <;> cases ho; simp [raf] at ha
  | makeSlice t l c =>
    simp only [rop] at ho
    split at ho
    · split at ho
      · split at ho <;> cases ho; simp [raf] at ha
      · cases ho
    · cases ho
  | buildSlice t len parts =>
    simp only [rop] at ho
    split at ho
    · rename_i el ps hu hps
      split at ho
      · rename_i n z hn hz
        split at ho
        · rename_i hc
          simp only [Bool.and_eq_true] at hc
          have h1 := Nat.le_of_ble_eq_true hc.1
          have h2 := Nat.eq_of_beq_eq_true hc.2
          cases ho
          simp only [raf] at ha
          split at ha
          · rename_i vs hvs
            split at ha
            · rename_i es hes
              split at ha
              · rename_i hlen
                have hlen := Nat.eq_of_beq_eq_true hlen
                cases ha
                intro E L w tmps hg r
                obtain ⟨a1, a2⟩ := partsEs_spec hes
                have hf := a2 [] z.cells h2 (by simp)
                simp only [List.nil_append] at hf
                rw [hlen] at hf
                have rp := rvp_sound hg r hps hvs
                have hpa : (parts.map fun p => (p.1, evT tmps p.2)).toList = parts.toList.map fun p => (p.1, evT tmps p.2) := by simp
                obtain ⟨c', rc, hrun⟩ := run_buildSlice (parts := parts.map fun p => (p.1, evT tmps p.2)) hu hn hz h1 h2 (by rw [hpa]; exact rp) hf w
                refine ⟨_, c', el, (0, 0), w.drawn, c'.size, wrapV hrun, fun E' hle hfz => ?_⟩
                have hcl : c'.size = len * n := by
                  have := rc.length
                  rw [flat_len (fun e he => (a1 e he).1), hlen, Array.length_toList] at this
                  exact this.symm
                refine lst_made (sz := n) (c := c') hle (by rw [flatten_clean]; exact rc.clean1) ?_ ?_ (by simpa using hlen) (by omega) c' (fun _ _ => rfl) hfz (Nat.le_refl _) rfl
                · intro e he
                  obtain ⟨e0, he0, rfl⟩ := List.mem_map.1 he
                  simpa using (a1 e0 he0).1
                · rw [flatten_clean]
                  refine all_clean ?_
                  rw [List.all_eq_true]
                  intro x hx
                  obtain ⟨e, he, hxe⟩ := List.mem_flatten.1 hx
                  exact List.all_eq_true.1 (a1 e he).2 x hxe
              · cases ha
            · cases ha
          · cases ha
        · cases ho
      · cases ho
    · cases ho
  | convert s d x =>
    simp only [rop, rconv] at ho
    split at ho
    · cases ho; simp [raf] at ha
    · cases ho; simp [raf] at ha
    · split at ho
      · cases ho; simp [raf] at ha
      · cases ho
    · rename_i el x1 hs hd hx
      split at ho
      · rename_i hel
        cases ho
        simp only [raf] at ha
        split at ha
        · rename_i bs hv
          cases ha
          intro E L w tmps hg r
          have := rv_sound hg r hx hv
          cases hcv : evT tmps x <;> rw [hcv] at this <;> cases this
          rename_i y e
          have hy : y.size = bs.length := by rw [← e, List.length_map, Array.length_toList]; rfl
          obtain ⟨cap, c2, n, h1, h2, h3, hrun⟩ := run_csb (P := P) (y := y) hs hd hel w
          rw [← hcv] at hrun
          refine ⟨_, c2, el, _, n, y.size, wrapV hrun, fun E' hle hfz => ?_⟩
          have hfl : (bs.map fun n : Nat => [V.int .u8 n]).flatten = bs.map fun n : Nat => V.int .u8 n := by
            clear hrun h3 hy e hx hv hcv
            induction bs with
            | nil => rfl
            | cons b bs ih => simp [ih]
          refine lst_made (sz := 1) (c := (y.data.map fun b => Value.int .u8 b.toNat)) hle (by rw [hfl]; exact bytes_ARs e) (by simp) (by rw [hfl]; simp [V.isCell]) (by simp [hy]) (by simp) c2 (fun i hi => h3 i (by simpa using hi)) hfz h1 trivial
        · cases ha
      · cases ho
    · cases ho
  | call c =>
    exfalso
    have h1 := rop_kind ho
    rw [raf_kind ha] at h1
    obtain ⟨callee, args, argTypes⟩ := c
    cases callee with
    | builtin bi => cases bi <;> simp [kindOp] at h1
    | _ => simp [kindOp] at h1
  | _ =>
    exfalso
    have h1 := rop_kind ho
    rw [raf_kind ha] at h1
    simp [kindOp] at h1

theorem ral_sound {o : Oper} {ro : RO} {cs : List V} (ho : rop P o = some ro) (ha : ral gl tm ro = some cs) : AllocL P gl nt tm o cs := by
  obtain ⟨dst, op, ty, pos, after, guard⟩ := o
  cases op with
  | alloc t =>
    simp only [rop] at ho
    cases hz : zeroT P t with
    | none => rw [hz] at ho; cases ho
    | some z =>
      rw [hz] at ho; cases ho
      simp only [ral] at ha
      split at ha
      · rename_i hall
        cases ha
        intro E L w tmps hg r
        obtain ⟨z', rz, hrun⟩ := run_alloc (P := P) (E := E) hz w
        exact ⟨_, ⟨w.heap.size, 0, z'.size⟩, hrun, rfl, rfl, cells_obj rz hall _ _ (by rw [rz.length]; simp) _ (Nat.le_refl _) (fun _ _ => rfl) 0 0 (by omega)⟩
      · cases ha
  | box t x =>
    simp only [rop] at ho
    cases hx : rx x with
    | none => rw [hx] at ho; cases ho
    | some y =>
      rw [hx] at ho; cases ho
      simp only [ral] at ha
      split at ha
      · rename_i u hu
        split at ha
        · rename_i hall
          cases ha
          intro E L w tmps hg r
          have rc := (rv_sound hg r hx hu).cells
          exact ⟨_, ⟨w.heap.size, 0, (evT tmps x).cells.size⟩, run_box w, rfl, rfl, cells_obj rc hall _ _ (by rw [rc.length]; simp) _ (Nat.le_refl _) (fun _ _ => rfl) 0 0 (by omega)⟩
        · cases ha
      · cases ha
  | buildSlice t len parts =>
    simp only [rop] at ho
    split at ho
    · split at ho
      · split at ho <;> cases ho; simp [ral] at ha
      · cases ho
    · cases ho
  | makeMap t res =>
    simp only [rop] at ho
    split at ho
    · cases ho; simp [ral] at ha
    · split at ho <;> cases ho; simp [ral] at ha
  | makeSlice t l c =>
    simp only [rop] at ho
    split at ho
    · split at ho
      · split at ho <;> cases ho; simp [ral] at ha
      · cases ho
    · cases ho
  | convert s d x =>
    simp only [rop, rconv] at ho
    split at ho
    · cases ho; simp [ral] at ha
    · cases ho; simp [ral] at ha
    · split at ho <;> cases ho; simp [ral] at ha
    · split at ho <;> cases ho; simp [ral] at ha
    · cases ho
  | call c =>
    exfalso
    have h1 := rop_kind ho
    rw [ral_kind ha] at h1
    obtain ⟨callee, args, argTypes⟩ := c
    cases callee with
    | builtin bi => cases bi <;> simp [kindOp] at h1
    | _ => simp [kindOp] at h1
  | _ =>
    exfalso
    have h1 := rop_kind ho
    rw [ral_kind ha] at h1
    simp [kindOp] at h1
end
end Go.VM
