/- The abstract machine: what loads, stores and new objects do to the relation. -/
import Derived.Test.YtaednlggmjlaaaaGreatDoorAmRel
import Derived.Laws.IdiomCopy
import Derived.Laws.Cells
set_option linter.unusedVariables false
set_option linter.unusedSimpArgs false
namespace Go.AM
noncomputable section
open Go.RowKit
variable {P : Program}

theorem add_zero (B O i : Nat) : (⟨B, O, none⟩ : Addr).add i = ⟨B, O + i, none⟩ := by
  unfold Addr.add; split <;> simp_all

theorem cell_of {w : World} {B : Nat} {c : Array Value} {el : TypeId} {fz : Nat × Nat} (h : w.heap[B]? = some (.cells c el fz)) (i : Nat) :
    w.cell? ⟨B, i, none⟩ = c[i]? := by simp [World.cell?, h]

theorem frozen_of {w : World} {B : Nat} {c : Array Value} {el : TypeId} {lo hi : Nat} (h : w.heap[B]? = some (.cells c el (lo, hi))) (hf : ∀ i, i < c.size → ¬ (lo ≤ i ∧ i < hi)) (i : Nat) (hi' : i < c.size) :
    w.frozen? ⟨B, i, none⟩ = false := by
  have := hf i hi'
  simp only [World.frozen?, h]
  rw [Bool.eq_false_iff]
  intro hc
  simp only [Bool.and_eq_true, decide_eq_true_eq] at hc
  exact this hc

/-! ### writing cells -/
def writeAt (c : Array Value) : Nat → List Value → Array Value
  | _, [] => c
  | o, v :: r => writeAt (c.setIfInBounds o v) (o + 1) r

theorem writeAt_size : ∀ (vs : List Value) (c : Array Value) (o : Nat), (writeAt c o vs).size = c.size
  | [], _, _ => rfl
  | v :: r, c, o => by rw [writeAt, writeAt_size r]; simp

theorem writeAt_out : ∀ (vs : List Value) (c : Array Value) (o i : Nat), (i < o ∨ o + vs.length ≤ i) → (writeAt c o vs)[i]? = c[i]?
  | [], _, _, _, _ => rfl
  | v :: r, c, o, i, h => by
    rw [writeAt, writeAt_out r _ _ _ (by simp at h; omega), Array.getElem?_setIfInBounds]
    rw [if_neg (by simp at h; omega)]

theorem writeAt_in : ∀ (vs : List Value) (c : Array Value) (o j : Nat), j < vs.length → o + j < c.size → (writeAt c o vs)[o + j]? = vs[j]?
  | v :: r, c, o, 0, h, hs => by
    rw [writeAt, writeAt_out r _ _ _ (by omega), Array.getElem?_setIfInBounds]
    simp at hs
    simp [hs]
  | v :: r, c, o, j + 1, h, hs => by
    rw [writeAt, show o + (j + 1) = o + 1 + j from by omega, writeAt_in r _ _ j (by simpa using h) (by simp; omega)]
    simp

theorem setCell_heap {w : World} {B : Nat} {c : Array Value} {el : TypeId} {fz : Nat × Nat} (h : w.heap[B]? = some (.cells c el fz)) (o : Nat) (v : Value) :
    (w.setCell ⟨B, o, none⟩ v).heap[B]? = some (.cells (c.setIfInBounds o v) el fz) := by
  simp [World.setCell, Array.getElem?_modify, h]

theorem setCells_heap (B : Nat) : ∀ (vs : List Value) (w : World) (c : Array Value) (el : TypeId) (fz : Nat × Nat) (o : Nat), w.heap[B]? = some (.cells c el fz) →
    (w.setCells B o vs).heap[B]? = some (.cells (writeAt c o vs) el fz)
  | [], _, _, _, _, _, h => h
  | v :: r, w, c, el, fz, o, h => by
    rw [World.setCells, writeAt]
    exact setCells_heap B r _ _ _ _ _ (setCell_heap h o v)

theorem setCells_other (B : Nat) : ∀ (vs : List Value) (w : World) (o k : Nat), k ≠ B → (w.setCells B o vs).heap[k]? = w.heap[k]?
  | [], _, _, _, _ => rfl
  | v :: r, w, o, k, h => by
    rw [World.setCells, setCells_other B r _ _ _ h]
    simp [World.setCell, Array.getElem?_modify]
    intro e; exact absurd e.symm h

theorem setCells_rest (B : Nat) : ∀ (vs : List Value) (w : World) (o : Nat), (w.setCells B o vs).heap.size = w.heap.size ∧ (w.setCells B o vs).os = w.os ∧ (w.setCells B o vs).tape = w.tape ∧ (w.setCells B o vs).output = w.output
  | [], _, _ => ⟨rfl, rfl, rfl, rfl⟩
  | v :: r, w, o => by
    obtain ⟨a, b, c, d⟩ := setCells_rest B r (w.setCell ⟨B, o, none⟩ v) (o + 1)
    rw [World.setCells]
    refine ⟨a.trans ?_, b, c, d⟩
    simp [World.setCell]

/-! ### reading -/
theorem rd_sound {E : Env} {h : H} {w0 w : World} (m : MR E h w0 w) {b o : Nat} {v : V} {p : Place} (hp : E b = some p) (hr : h.rd b o = some v) :
    ∃ v', w.cell? ⟨p.blk, p.off + o, none⟩ = some v' ∧ AR E v v' ∧ v.isCell = true := by
  unfold H.rd at hr
  split at hr
  · rename_i op cs hb
    obtain ⟨c, el, lo, hi, h1, h2, h3, h4, h5⟩ := m.obj b _ p hb hp
    obtain ⟨hc, v', hv, ha⟩ := h5 o v hr
    exact ⟨v', by rw [cell_of h1]; exact hv, ha, hc⟩
  · cases hr

theorem rdN_sound {E : Env} {h : H} {w0 w : World} (m : MR E h w0 w) {b o n : Nat} {l : List V} {p : Place} (hp : E b = some p) (hr : h.rdN b o n = some l) :
    ∃ l' : List Value, (loadCells ⟨p.blk, p.off + o, none⟩ n).run P w = .ok l'.toArray w ∧ ARs E l l' ∧ l.length = n ∧ l.all V.isCell = true ∧ ∀ (j : Nat) (v : Value), l'[j]? = some v → w.cell? ⟨p.blk, p.off + o + j, none⟩ = some v := by
  unfold H.rdN at hr
  split at hr
  · rename_i op cs hb
    split at hr
    · rename_i hle
      cases hr
      obtain ⟨c, el, lo, hi, h1, h2, h3, h4, h5⟩ := m.obj b _ p hb hp
      have hlen : ((cs.drop o).take n).length = n := by simp; omega
      let l' : List Value := (List.range n).map fun j => (c[p.off + (o + j)]?).getD undef
      have hg : ∀ j, j < n → ∃ v', c[p.off + (o + j)]? = some v' := by
        intro j hj
        obtain ⟨v, hv⟩ : ∃ v, cs[o + j]? = some v := ⟨cs[o + j], by simp⟩
        obtain ⟨_, v', hv', _⟩ := h5 (o + j) v hv
        exact ⟨v', hv'⟩
      have hl' : ∀ (j : Nat) (v : Value), l'[j]? = some v → w.cell? ⟨p.blk, p.off + o + j, none⟩ = some v := by
        intro j v hv
        have hj : j < n := by
          rcases Nat.lt_or_ge j n with g | g
          · exact g
          · simp [l', g] at hv
        obtain ⟨v', hv'⟩ := hg j hj
        simp [l', hj, hv'] at hv
        rw [cell_of h1, Nat.add_assoc, hv', hv]
      have hlen' : l'.length = n := by simp [l']
      refine ⟨l', ?_, ?_, hlen, ?_, hl'⟩
      · have := run_loadCells_list (P := P) w ⟨p.blk, p.off + o, none⟩ l' (fun j v hv => by rw [add_zero]; exact hl' j v hv)
        rwa [hlen'] at this
      · refine ARs.of_get (by rw [hlen, hlen']) fun i v hv => ?_
        have hi' : i < n := by
          rcases Nat.lt_or_ge i n with g | g
          · exact g
          · rw [List.getElem?_eq_none (by omega)] at hv; cases hv
        rw [List.getElem?_take, if_pos hi', List.getElem?_drop] at hv
        obtain ⟨_, v', hv', ha⟩ := h5 (o + i) v hv
        exact ⟨v', by simp [l', hi', hv'], ha⟩
      · rw [List.all_eq_true]
        intro x hx
        obtain ⟨i, hi⟩ := List.mem_iff_getElem?.1 (List.mem_of_mem_drop (List.mem_of_mem_take hx))
        exact (h5 i x hi).1
    · cases hr
  · cases hr

/-! ### storing -/
theorem H.get_put {h : H} {b : Nat} {o : Obj} (hb : b < lim) (k : Nat) : (h.put b o).get k = if k = b then some o else h.get k := by
  unfold H.put H.get; exact T.get_set _ _ _ _ _ (fu_lim hb)

theorem H.get_kill {h : H} {b : Nat} (k : Nat) : (h.kill b).get k = if k = b then none else h.get k := by
  unfold H.kill H.get; exact T.get_del _ _ _

/-- an object is changed in its place. -/
theorem put_sound {E : Env} {h : H} {w0 w w1 : World} (m : MR E h w0 w) {b : Nat} {old new : Obj} {p : Place} (hb : h.get b = some old) (hp : E b = some p) (hg : glim ≤ b)
    (hother : ∀ k, k ≠ p.blk → w1.heap[k]? = w.heap[k]?) (hsize : w1.heap.size = w.heap.size) (hos : w1.os = w.os) (htape : w1.tape = w.tape) (hout : w1.output = w.output)
    (hobj : ObjR E new p w1) : MR E (h.put b new) w0 w1 ∧ Ext E h E (h.put b new) := by
  have hbn := m.nxt_of hb
  have hbl : b < lim := Nat.lt_of_lt_of_le hbn m.lim
  have hown := m.own b p hg hp
  refine ⟨⟨⟨hos.trans m.below.os, htape.trans m.below.tape, hout.trans m.below.output, by rw [hsize]; exact m.below.size, fun k hk => ?_⟩, fun k hk => ?_, m.glo, m.lim, fun k o q hk hq => ?_, fun k o hk ho => ?_, m.own, fun k q hq => by rw [hsize]; exact m.lt k q hq, fun k k' o o' q q' hne hk hk' hq hq' => ?_⟩,
    Env.le_refl E, fun _ _ => rfl, Nat.le_refl _, fun k hk he => ?_⟩
  · rw [hother k (by omega)]; exact m.below.block k hk
  · refine ⟨(m.fresh k hk).1, ?_⟩
    rw [H.get_put hbl, if_neg (by have : h.nxt ≤ k := hk; omega)]
    exact (m.fresh k hk).2
  · rw [H.get_put hbl] at hk
    split at hk
    · rename_i e; subst e; cases hk; rw [hp] at hq; cases hq; exact hobj
    · rename_i e
      exact (m.obj k o q hk hq).world (hother _ (m.apart k b o old q p e hk hb hq hp))
  · rw [H.get_put hbl, if_neg (by omega)] at ho
    exact m.glb k o hk ho
  · have f : ∀ k o, (h.put b new).get k = some o → ∃ o', h.get k = some o' := by
      intro k o hk
      rw [H.get_put hbl] at hk
      split at hk
      · rename_i e; subst e; exact ⟨_, hb⟩
      · exact ⟨_, hk⟩
    obtain ⟨u, hu⟩ := f k o hk
    obtain ⟨u', hu'⟩ := f k' o' hk'
    exact m.apart k k' u u' q q' hne hu hu' hq hq'
  · rw [H.get_put hbl, if_neg]
    rintro rfl; rw [hp] at he; cases he

theorem wrN_sound {E : Env} {h h' : H} {w0 w : World} (m : MR E h w0 w) {b o : Nat} {vs : List V} {vs' : List Value} {p : Place} (hw : h.wrN b o vs = some h') (hp : E b = some p) (hv : ARs E vs vs') :
    (storeCells ⟨p.blk, p.off + o, none⟩ vs').run P w = .ok () (w.setCells p.blk (p.off + o) vs') ∧ MR E h' w0 (w.setCells p.blk (p.off + o) vs') ∧ Ext E h E h' := by
  unfold H.wrN at hw
  split at hw
  · rename_i op cs hb
    split at hw
    · rename_i hc
      obtain ⟨hle, hall, hg⟩ := hc
      cases hw
      obtain ⟨c, el, lo, hi, h1, h2, h3, h4, h5⟩ := m.obj b _ p hb hp
      have hlen := hv.length
      have hone : ∀ v ∈ vs', v.oneCell' = true := by
        intro v hmem
        obtain ⟨i, hi⟩ := List.mem_iff_getElem?.1 hmem
        have hilt : i < vs.length := by rw [hlen]; exact (List.getElem?_eq_some_iff.1 hi).1
        obtain ⟨v', hv', ha⟩ := hv.get i vs[i] (by simp)
        rw [hi] at hv'; cases hv'
        have hcell := (List.all_eq_true.1 hall) vs[i] (List.getElem_mem _)
        obtain ⟨n1, n2⟩ := ha.isCell hcell
        cases v <;> first | rfl | exact absurd rfl (n1 _) | exact absurd rfl (n2 _)
      have hin : ∀ j, j < vs'.length → p.off + o + j < c.size := by intro j hj; omega
      have hcell : ∀ j, j < vs'.length → (w.cell? ⟨p.blk, p.off + o + 0 + j, none⟩).isSome = true := by
        intro j hj; rw [cell_of h1]; have := hin j hj; simp; omega
      have hfr : ∀ j, j < vs'.length → w.frozen? ⟨p.blk, p.off + o + 0 + j, none⟩ = false := by
        intro j hj; exact frozen_of h1 h2 _ (by have := hin j hj; omega)
      have hrun := run_storeCells_cells (P := P) p.blk (p.off + o) vs' 0 w hcell hfr hone
      obtain ⟨r1, r2, r3, r4⟩ := setCells_rest p.blk vs' w (p.off + o)
      refine ⟨hrun, ?_⟩
      refine put_sound m hb hp hg (fun k hk => setCells_other _ _ _ _ _ hk) r1 r2 r3 r4 ?_
      refine ⟨writeAt c (p.off + o) vs', el, lo, hi, setCells_heap _ _ _ _ _ _ _ h1, fun i hi => h2 i (by rwa [writeAt_size] at hi), by rw [writeAt_size]; exact h3, by simp; omega, fun i v hv' => ?_⟩
      by_cases hi1 : i < o
      · have : cs[i]? = some v := by
          rw [List.append_assoc, List.getElem?_append_left (by simp; omega), List.getElem?_take, if_pos hi1] at hv'
          exact hv'
        obtain ⟨a1, v', a2, a3⟩ := h5 i v this
        exact ⟨a1, v', by rw [writeAt_out _ _ _ _ (by omega)]; exact a2, a3⟩
      · by_cases hi2 : i < o + vs.length
        · have hvi : vs[i - o]? = some v := by
            rw [List.append_assoc, List.getElem?_append_right (by simp; omega), List.getElem?_append_left (by simp; omega)] at hv'
            rwa [show i - (cs.take o).length = i - o by simp; omega] at hv'
          obtain ⟨v', b1, b2⟩ := hv.get (i - o) v hvi
          refine ⟨(List.all_eq_true.1 hall) v (List.mem_of_getElem? hvi), v', ?_, b2⟩
          have := writeAt_in vs' c (p.off + o) (i - o) (by omega) (hin _ (by omega))
          rw [show p.off + o + (i - o) = p.off + i by omega] at this
          rw [this, b1]
        · have : cs[i]? = some v := by
            rw [List.getElem?_append_right (by simp; omega), List.getElem?_drop] at hv'
            rwa [show o + vs.length + (i - (cs.take o ++ vs).length) = i by simp; omega] at hv'
          obtain ⟨a1, v', a2, a3⟩ := h5 i v this
          exact ⟨a1, v', by rw [writeAt_out _ _ _ _ (by omega)]; exact a2, a3⟩
    · cases hw
  · cases hw

/-! ### new objects -/
def upd (E : Env) (b : Nat) (p : Place) : Env := fun k => if k = b then some p else E k

theorem upd_le {E : Env} {b : Nat} {p : Place} (h : E b = none) : E.le (upd E b p) := by
  intro k q hk; unfold upd; split
  · rename_i e; subst e; rw [h] at hk; cases hk
  · exact hk

theorem ghost_new {E : Env} {h h' : H} {w0 w : World} (m : MR E h w0 w) {b : Nat} {o : Obj} (hn : h.new o = some (b, h')) :
    MR E h' w0 w ∧ Ext E h E h' ∧ E b = none ∧ h'.get b = some o ∧ b < h'.nxt ∧ glim ≤ b ∧ b = h.nxt := by
  unfold H.new at hn
  split at hn
  · cases hn
  · rename_i hl
    cases hn
    have hlt : h.nxt < lim := by
      rcases Nat.lt_or_ge h.nxt lim with g | g
      · exact g
      · rw [Nat.ble_eq_true_of_le g] at hl; cases hl
    have hget : ∀ k, H.get { nxt := h.nxt + 1, tr := h.tr.set fu h.nxt o } k = if k = h.nxt then some o else h.get k := by
      intro k; unfold H.get; exact T.get_set _ _ _ _ _ (fu_lim hlt)
    have hE := (m.fresh h.nxt (Nat.le_refl _)).1
    refine ⟨⟨m.below, fun k hk => ?_, Nat.le_succ_of_le m.glo, hlt, fun k u q hk hq => ?_, fun k u hk hu => ?_, m.own, m.lt, fun k k' u u' q q' hne hk hk' hq hq' => ?_⟩,
      ⟨Env.le_refl E, fun _ _ => rfl, Nat.le_succ _, fun k hk _ => ?_⟩, hE, ?_, Nat.lt_succ_self _, m.glo, rfl⟩
    · have hk' : h.nxt + 1 ≤ k := hk
      refine ⟨(m.fresh k (by omega)).1, ?_⟩
      rw [hget, if_neg (by omega)]; exact (m.fresh k (by omega)).2
    · rw [hget] at hk
      split at hk
      · rename_i e; subst e; rw [hE] at hq; cases hq
      · exact m.obj k u q hk hq
    · rw [hget, if_neg (by have := m.glo; omega)] at hu; exact m.glb k u hk hu
    · rw [hget] at hk hk'
      split at hk
      · rename_i e; subst e; rw [hE] at hq; cases hq
      · split at hk'
        · rename_i e; subst e; rw [hE] at hq'; cases hq'
        · exact m.apart k k' u u' q q' hne hk hk' hq hq'
    · rw [hget, if_neg (by omega)]
    · rw [hget, if_pos rfl]

/-- the model makes the block of an object that had none. -/
theorem place_sound {E : Env} {h : H} {w0 w : World} (m : MR E h w0 w) {b : Nat} {p : Place} (hb : b < h.nxt) (hE : E b = none) (hg : glim ≤ b) (ob : Go.Obj) (hblk : p.blk = w.heap.size)
    (hobj : ∀ o, h.get b = some o → ObjR (upd E b p) o p { w with heap := w.heap.push ob }) :
    MR (upd E b p) h w0 { w with heap := w.heap.push ob } := by
  have hle := upd_le (p := p) hE
  have hold : ∀ k, k < w.heap.size → (w.heap.push ob)[k]? = w.heap[k]? := by
    intro k hk; rw [Array.getElem?_push, if_neg (by omega)]
  have hup : ∀ k q, upd E b p k = some q → k ≠ b → E k = some q := by
    intro k q hk hne; unfold upd at hk; rwa [if_neg hne] at hk
  have hub : ∀ q, upd E b p b = some q → q = p := by intro q hq; unfold upd at hq; rw [if_pos rfl] at hq; exact (Option.some.inj hq).symm
  refine ⟨⟨m.below.os, m.below.tape, m.below.output, by simpa using Nat.le_succ_of_le m.below.size, fun k hk => ?_⟩, fun k hk => ?_, m.glo, m.lim, fun k o q hk hq => ?_, m.glb, fun k q hk hq => ?_, fun k q hq => ?_, fun k k' o o' q q' hne hk hk' hq hq' => ?_⟩
  · exact (hold k (Nat.lt_of_lt_of_le hk m.below.size)).trans (m.below.block k hk)
  · refine ⟨?_, (m.fresh k hk).2⟩
    unfold upd; rw [if_neg (by omega)]; exact (m.fresh k hk).1
  · by_cases e : k = b
    · subst e; rw [hub q hq]; exact hobj o hk
    · have hq' := hup k q hq e
      exact ((m.obj k o q hk hq').mono hle).world (hold _ (m.lt k q hq'))
  · by_cases e : k = b
    · subst e; rw [hub q hq, hblk]; exact m.below.size
    · exact m.own k q hk (hup k q hq e)
  · by_cases e : k = b
    · subst e; rw [hub q hq, hblk]; simp
    · have := m.lt k q (hup k q hq e); simp; omega
  · by_cases e : k = b
    · by_cases e' : k' = b
      · exact absurd (e.trans e'.symm) hne
      · subst e; rw [hub q hq, hblk]; exact Nat.ne_of_gt (m.lt k' q' (hup k' q' hq' e'))
    · by_cases e' : k' = b
      · subst e'; rw [hub q' hq', hblk]; exact Nat.ne_of_lt (m.lt k q (hup k q hq e))
      · exact m.apart k k' o o' q q' hne hk hk' (hup k q hq e) (hup k' q' hq' e')

theorem kill_sound {E : Env} {h : H} {w0 w : World} (m : MR E h w0 w) {b : Nat} {p : Place} (hp : E b = some p) : MR E (h.kill b) w0 w ∧ Ext E h E (h.kill b) := by
  have f : ∀ k o, (h.kill b).get k = some o → h.get k = some o := by
    intro k o hk; rw [H.get_kill] at hk; split at hk
    · cases hk
    · exact hk
  refine ⟨⟨m.below, fun k hk => ⟨(m.fresh k hk).1, ?_⟩, m.glo, m.lim, fun k o q hk hq => m.obj k o q (f k o hk) hq, fun k o hk ho => m.glb k o hk (f k o ho), m.own, m.lt, fun k k' o o' q q' hne hk hk' hq hq' => m.apart k k' o o' q q' hne (f _ _ hk) (f _ _ hk') hq hq'⟩,
    Env.le_refl E, fun _ _ => rfl, Nat.le_refl _, fun k hk he => ?_⟩
  · rw [H.get_kill]; split
    · rfl
    · exact (m.fresh k hk).2
  · rw [H.get_kill, if_neg]; rintro rfl; rw [hp] at he; cases he

/-- only heap, tape, output and system count. -/
theorem MR.drawn {E : Env} {h : H} {w0 w : World} (m : MR E h w0 w) (n : Nat) : MR E h w0 { w with drawn := n } :=
  ⟨⟨m.below.os, m.below.tape, m.below.output, m.below.size, m.below.block⟩, m.fresh, m.glo, m.lim, fun b o p hb hp => (m.obj b o p hb hp).world rfl, m.glb, m.own, m.lt, m.apart⟩
end
end Go.AM
