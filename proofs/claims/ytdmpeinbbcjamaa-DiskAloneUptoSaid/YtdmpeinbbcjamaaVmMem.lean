/- The machine of values: what loads, stores and new memory do to the relation. -/
import Derived.Test.YtdmpeinbbcjamaaVmRel
set_option linter.unusedVariables false
set_option linter.unusedSimpArgs false
namespace Go.VM
open Go.RowKit
variable {P : Program}

/-! ### reading -/
def takeN : List V → Nat → Option (List V)
  | _, 0 => some []
  | [], _ + 1 => none
  | c :: cs, n + 1 => match takeN cs n with
    | some r => some (c :: r)
    | none => none

theorem takeN_eq : ∀ {cs l : List V} {n : Nat}, takeN cs n = some l → n ≤ cs.length ∧ l = cs.take n
  | cs, l, 0, h => by simp [takeN] at h; subst h; simp
  | [], l, n + 1, h => by simp [takeN] at h
  | c :: cs, l, n + 1, h => by
    simp only [takeN] at h
    split at h
    · rename_i r hr
      cases h
      obtain ⟨a, b⟩ := takeN_eq hr
      exact ⟨by simpa using a, by simp [b]⟩
    · cases h

theorem takeN_of : ∀ {cs : List V} {n : Nat}, n ≤ cs.length → takeN cs n = some (cs.take n)
  | cs, 0, _ => by simp [takeN]
  | [], n + 1, h => by simp at h
  | c :: cs, n + 1, h => by simp only [takeN, takeN_of (cs := cs) (n := n) (by simpa using h)]; simp

def readC : List V → Nat → Nat → Option (List V)
  | cs, 0, n => takeN cs n
  | [], _ + 1, _ => none
  | _ :: cs, o + 1, n => readC cs o n

theorem readC_eq : ∀ {cs l : List V} {o n : Nat}, readC cs o n = some l → o + n ≤ cs.length ∧ l = (cs.drop o).take n
  | cs, l, 0, n, h => by
    simp only [readC] at h
    obtain ⟨a, b⟩ := takeN_eq h
    exact ⟨by omega, by simpa using b⟩
  | [], l, o + 1, n, h => by simp [readC] at h
  | c :: cs, l, o + 1, n, h => by
    simp only [readC] at h
    obtain ⟨a, b⟩ := readC_eq h
    exact ⟨by simp; omega, by simpa using b⟩

theorem readC_all {cs : List V} {n : Nat} (h : cs.length = n) : readC cs 0 n = some cs := by
  simp only [readC]; rw [takeN_of (by omega), ← h, List.take_length]

/-- cells that stand in memory just now. -/
def Seen (E : Env) (w : World) (blk off : Nat) (cs : List V) : Prop := ∀ (i : Nat) (v : V), cs[i]? = some v → v.isCell = true ∧ ∃ v', w.cell? ⟨blk, off + i, none⟩ = some v' ∧ AR E v v'

theorem CellsR.seen {E : Env} {cs : List V} {p : Place} {w : World} (r : CellsR E cs p w) : Seen E w p.blk p.off cs := by
  obtain ⟨c, el, lo, hi, h1, h2, h3, h4, h5⟩ := r
  intro i v hv
  obtain ⟨a, v', b, d⟩ := h5 i v hv
  exact ⟨a, v', by rw [cell_of h1]; exact b, d⟩

theorem MR.seen {E : Env} {F : Fx} {h : H} {w0 w : World} (m : MR E F h w0 w) {blk off : Nat} {cs : List V} (r : FZ E blk off cs) : Seen E w blk off cs := by
  intro i v hv
  obtain ⟨a, v', b, d⟩ := r.get i v hv
  obtain ⟨c, el, ⟨lo, hi⟩, h1, h2⟩ := m.fz _ _ _ b
  exact ⟨a, v', by rw [cell_of h1]; exact h2, d⟩

theorem Seen.one {E : Env} {w : World} {blk off o : Nat} {cs : List V} {v : V} (s : Seen E w blk off cs) (h : cs[o]? = some v) : ∃ v', w.cell? ⟨blk, off + o, none⟩ = some v' ∧ AR E v v' := (s o v h).2

theorem Seen.read {E : Env} {w : World} {blk off o n : Nat} {cs l : List V} (s : Seen E w blk off cs) (h : readC cs o n = some l) :
    ∃ l' : List Value, (loadCells ⟨blk, off + o, none⟩ n).run P w = .ok l'.toArray w ∧ ARs E l l' ∧ l.length = n ∧ l.all V.isCell = true ∧ ∀ (j : Nat) (v : Value), l'[j]? = some v → w.cell? ⟨blk, off + o + j, none⟩ = some v := by
  obtain ⟨hle, rfl⟩ := readC_eq h
  have hlen : ((cs.drop o).take n).length = n := by simp; omega
  let l' : List Value := (List.range n).map fun j => (w.cell? ⟨blk, off + (o + j), none⟩).getD undef
  have hg : ∀ j, j < n → ∃ v', w.cell? ⟨blk, off + (o + j), none⟩ = some v' := by
    intro j hj
    obtain ⟨v, hv⟩ : ∃ v, cs[o + j]? = some v := ⟨cs[o + j], by simp⟩
    obtain ⟨_, v', hv', _⟩ := s (o + j) v hv
    exact ⟨v', hv'⟩
  have hl' : ∀ (j : Nat) (v : Value), l'[j]? = some v → w.cell? ⟨blk, off + o + j, none⟩ = some v := by
    intro j v hv
    have hj : j < n := by
      rcases Nat.lt_or_ge j n with g | g
      · exact g
      · simp [l', g] at hv
    obtain ⟨v', hv'⟩ := hg j hj
    simp [l', hj, hv'] at hv
    rw [Nat.add_assoc, hv', hv]
  have hlen' : l'.length = n := by simp [l']
  refine ⟨l', ?_, ?_, hlen, ?_, hl'⟩
  · have := run_loadCells_list (P := P) w ⟨blk, off + o, none⟩ l' (fun j v hv => by rw [add_zero]; exact hl' j v hv)
    rwa [hlen'] at this
  · refine ARs.of_get (by rw [hlen, hlen']) fun i v hv => ?_
    have hi' : i < n := by
      rcases Nat.lt_or_ge i n with g | g
      · exact g
      · rw [List.getElem?_eq_none (by omega)] at hv; cases hv
    rw [List.getElem?_take, if_pos hi', List.getElem?_drop] at hv
    obtain ⟨_, v', hv', ha⟩ := s (o + i) v hv
    exact ⟨v', by simp [l', hi', hv'], ha⟩
  · rw [List.all_eq_true]
    intro x hx
    obtain ⟨i, hi⟩ := List.mem_iff_getElem?.1 (List.mem_of_mem_drop (List.mem_of_mem_take hx))
    exact (s i x hi).1

/-! ### writing -/
def overl : List V → List V → Option (List V)
  | cs, [] => some cs
  | [], _ :: _ => none
  | _ :: cs, v :: vs => match overl cs vs with
    | some r => some (v :: r)
    | none => none

theorem overl_eq : ∀ {cs vs l : List V}, overl cs vs = some l → vs.length ≤ cs.length ∧ l = vs ++ cs.drop vs.length
  | cs, [], l, h => by simp [overl] at h; subst h; simp
  | [], _ :: _, l, h => by simp [overl] at h
  | c :: cs, v :: vs, l, h => by
    simp only [overl] at h
    split at h
    · rename_i r hr
      cases h
      obtain ⟨a, b⟩ := overl_eq hr
      exact ⟨by simpa using a, by simp [b]⟩
    · cases h

theorem overl_of : ∀ {cs vs : List V}, vs.length ≤ cs.length → overl cs vs = some (vs ++ cs.drop vs.length)
  | cs, [], h => by simp [overl]
  | [], _ :: _, h => by simp at h
  | c :: cs, v :: vs, h => by simp only [overl, overl_of (cs := cs) (vs := vs) (by simpa using h)]; simp

def putC : List V → Nat → List V → Option (List V)
  | cs, 0, vs => overl cs vs
  | [], _ + 1, _ => none
  | c :: cs, o + 1, vs => match putC cs o vs with
    | some r => some (c :: r)
    | none => none

theorem putC_eq : ∀ {cs vs l : List V} {o : Nat}, putC cs o vs = some l → o + vs.length ≤ cs.length ∧ l = cs.take o ++ vs ++ cs.drop (o + vs.length)
  | cs, vs, l, 0, h => by
    simp only [putC] at h
    obtain ⟨a, b⟩ := overl_eq h
    exact ⟨by omega, by simpa using b⟩
  | [], vs, l, o + 1, h => by simp [putC] at h
  | c :: cs, vs, l, o + 1, h => by
    simp only [putC] at h
    split at h
    · rename_i r hr
      cases h
      obtain ⟨a, b⟩ := putC_eq hr
      refine ⟨by simp; omega, ?_⟩
      rw [b, show o + 1 + vs.length = (o + vs.length) + 1 by omega]
      simp
    · cases h

theorem putC_of : ∀ {cs vs : List V} {o : Nat}, o + vs.length ≤ cs.length → putC cs o vs = some (cs.take o ++ vs ++ cs.drop (o + vs.length))
  | cs, vs, 0, h => by simp only [putC]; rw [overl_of (by omega)]; simp
  | [], vs, o + 1, h => by simp at h
  | c :: cs, vs, o + 1, h => by
    simp only [putC, putC_of (cs := cs) (vs := vs) (o := o) (by simp at h; omega)]
    rw [show o + 1 + vs.length = (o + vs.length) + 1 by omega]
    simp

theorem putC_one {cs : List V} {o : Nat} {v : V} (h : o < cs.length) : putC cs o [v] = some (cs.set o v) := by
  rw [putC_of (by simp; omega), List.set_eq_take_append_cons_drop, if_pos h]; simp

/-- worlds that part in one block. -/
structure Turn (B : Nat) (w w1 : World) : Prop where
  os : w1.os = w.os
  tape : w1.tape = w.tape
  out : w1.output = w.output
  size : w1.heap.size = w.heap.size
  other : ∀ k, k ≠ B → w1.heap[k]? = w.heap[k]?

theorem Turn.setCells (B : Nat) (vs : List Value) (w : World) (o : Nat) : Turn B w (w.setCells B o vs) := by
  obtain ⟨r1, r2, r3, r4⟩ := setCells_rest B vs w o
  exact ⟨r2, r3, r4, r1, fun k hk => setCells_other _ _ _ _ _ hk⟩

theorem Turn.set (B : Nat) (o : Go.Obj) (w : World) : Turn B w { w with heap := w.heap.setIfInBounds B o } :=
  ⟨rfl, rfl, rfl, by simp, fun k hk => by rw [Array.getElem?_setIfInBounds, if_neg (fun e => hk e.symm)]⟩

theorem CellsR.write {E : Env} {cs cs' vs : List V} {vs' : List Value} {p : Place} {w : World} {o : Nat} (r : CellsR E cs p w) (h : putC cs o vs = some cs') (hall : vs.all V.isCell = true) (hv : ARs E vs vs') :
    (storeCells ⟨p.blk, p.off + o, none⟩ vs').run P w = .ok () (w.setCells p.blk (p.off + o) vs') ∧ CellsR E cs' p (w.setCells p.blk (p.off + o) vs') := by
  obtain ⟨hle, rfl⟩ := putC_eq h
  obtain ⟨c, el, lo, hi, h1, h2, h3, h4, h5⟩ := r
  have hlen := hv.length
  have hone : ∀ v ∈ vs', v.oneCell' = true := by
    intro v hmem
    obtain ⟨i, hi⟩ := List.mem_iff_getElem?.1 hmem
    have hilt : i < vs.length := by rw [hlen]; exact (List.getElem?_eq_some_iff.1 hi).1
    obtain ⟨v', hv', ha⟩ := hv.get i vs[i] (by simp)
    rw [hi] at hv'; cases hv'
    exact ha.oneCell ((List.all_eq_true.1 hall) vs[i] (List.getElem_mem _))
  have hin : ∀ j, j < vs'.length → p.off + o + j < c.size := by intro j hj; omega
  have hcell : ∀ j, j < vs'.length → (w.cell? ⟨p.blk, p.off + o + 0 + j, none⟩).isSome = true := by
    intro j hj; rw [cell_of h1]; have := hin j hj; simp; omega
  have hfr : ∀ j, j < vs'.length → w.frozen? ⟨p.blk, p.off + o + 0 + j, none⟩ = false := by
    intro j hj; exact frozen_of h1 h2 _ (by have := hin j hj; omega)
  have hrun := run_storeCells_cells (P := P) p.blk (p.off + o) vs' 0 w hcell hfr hone
  refine ⟨hrun, ?_⟩
  refine ⟨writeAt c (p.off + o) vs', el, lo, hi, setCells_heap _ _ _ _ _ _ _ h1, fun i hi => h2 i (by rwa [writeAt_size] at hi), by rw [writeAt_size]; exact h3, by simp; omega, fun i v hv' => ?_⟩
  by_cases hi1 : i < o
  · have : cs[i]? = some v := by
      rw [List.append_assoc, List.getElem?_append_left (by simp; omega), List.getElem?_take, if_pos hi1] at hv'
      exact hv'
    obtain ⟨a1, v', a2, a3⟩ := h5 i v this
    exact ⟨a1, v', by rw [writeAt_out _ _ _ _ (by omega)]; exact a2, a3⟩
  · by_cases hi2 : i < o + vs.length
    · have hvi : vs[i - o]? = some v := by
        rw [List.append_assoc, List.getElem?_append_right (by simp; omega), List.getElem?_append_left (by simp; omega)] at hv'
        rwa [show i - (cs.take o).length = i - o by simp; omega] at hv'
      obtain ⟨v', b1, b2⟩ := hv.get (i - o) v hvi
      refine ⟨(List.all_eq_true.1 hall) v (List.mem_of_getElem? hvi), v', ?_, b2⟩
      have := writeAt_in vs' c (p.off + o) (i - o) (by omega) (hin _ (by omega))
      rw [show p.off + o + (i - o) = p.off + i by omega] at this
      rw [this, b1]
    · have : cs[i]? = some v := by
        rw [List.getElem?_append_right (by simp; omega), List.getElem?_drop] at hv'
        rwa [show o + vs.length + (i - (cs.take o ++ vs).length) = i by simp; omega] at hv'
      obtain ⟨a1, v', a2, a3⟩ := h5 i v this
      exact ⟨a1, v', by rw [writeAt_out _ _ _ _ (by omega)]; exact a2, a3⟩

/-! ### what stays -/
section
variable {E : Env} {F : Fx} {h : H} {w0 w w1 : World}

theorem MR.obOwn (m : MR E F h w0 w) {b : Nat} {o : Obj} {p : Place} (hb : h.ob b = some o) (hp : E.ob b = some p) {B : Nat} (hB : w0.heap.size ≤ B) (ho : ∀ b', F.own B = .ob b' → b' ≠ b) : p.blk ≠ B := by
  rintro rfl
  rcases Nat.lt_or_ge b glim with g | g
  · have := m.gbl b p g hp; omega
  · exact ho b (m.oOb b o p g hb hp).1 rfl

theorem MR.fzOwn (m : MR E F h w0 w) {B' i : Nat} {v : Value} (hf : E.fz B' i = some v) {B : Nat} (hB : w0.heap.size ≤ B) (ho : F.own B ≠ .fz) (ho' : ∀ b, F.own B ≠ .tk b) (ho2 : ∀ k, F.own B ≠ .pr (some k)) : B' ≠ B := by
  rintro rfl
  rcases m.oFz _ _ _ hf hB with g | ⟨b, g⟩ | ⟨k, g, _⟩
  · exact ho g
  · exact ho' b g
  · exact ho2 k g

theorem Below.turn {B : Nat} {a : World} (h : Below w0.heap.size a w) (t : Turn B w w1) (hB : w0.heap.size ≤ B) : Below w0.heap.size a w1 :=
  ⟨t.os.trans h.os, t.tape.trans h.tape, t.out.trans h.output, by rw [t.size]; exact h.size, fun k hk => by rw [t.other k (by omega)]; exact h.block k hk⟩

/-- an object is changed in its place. -/
theorem MR.put (m : MR E F h w0 w) {b : Nat} {old new : Obj} {p : Place} (hb : h.ob b = some old) (hp : E.ob b = some p) (hg : glim ≤ b) (hnt : ∀ n, new ≠ .tok n) (t : Turn p.blk w w1) (hobj : ObjR E new p w1) :
    MR E F (h.put b new) w0 w1 ∧ Ext E h E (h.put b new) := by
  have hbn := m.nxt_of hb
  obtain ⟨hown, hw0⟩ := m.oOb b old p hg hb hp
  have hob : ∀ k o, (h.put b new).ob k = some o → (k = b ∧ o = new) ∨ (k ≠ b ∧ h.ob k = some o) := by
    intro k o hk
    simp only [H.put] at hk
    split at hk
    · rename_i e; cases hk; exact .inl ⟨e, rfl⟩
    · rename_i e; exact .inr ⟨e, hk⟩
  have hne : ∀ k o q, k ≠ b → h.ob k = some o → E.ob k = some q → q.blk ≠ p.blk := fun k o q e hk hq => m.obOwn hk hq hw0 (fun b' hb' => by rw [hown] at hb'; cases hb'; exact fun z => e z.symm)
  refine ⟨⟨Below.turn m.below t hw0, fun k hk => ?_, m.glo, fun k o hk ho => ?_, m.gbl, fun B hB => by rw [t.size]; exact m.lto B hB, fun k o q hk hq => ?_, fun k o q hk' hk hq => ?_, fun B i v hf => ?_, m.oFz, fun k n q hk hq => ?_, fun k n n' hk hn => ?_, fun k n hk => ?_, fun d q hq => ?_, fun B x hx => ?_⟩,
    Env.le_refl E, fun _ _ => rfl, Nat.le_refl _, fun k o hk he ho hn => ?_⟩
  · obtain ⟨a1, a2, a3⟩ := m.fresh k hk
    refine ⟨a1, ?_, a3⟩
    simp only [H.put]; rw [if_neg (by have : h.nxt ≤ k := hk; omega)]; exact a2
  · rcases hob k o ho with ⟨rfl, rfl⟩ | ⟨_, h2⟩
    · omega
    · exact m.glb k o hk h2
  · rcases hob k o hk with ⟨rfl, rfl⟩ | ⟨e, h2⟩
    · rw [hp] at hq; cases hq; exact hobj
    · exact (m.obj k o q h2 hq).world (t.other _ (hne k o q e h2 hq))
  · rcases hob k o hk with ⟨rfl, rfl⟩ | ⟨e, h2⟩
    · rw [hp] at hq; cases hq; exact ⟨hown, hw0⟩
    · exact m.oOb k o q hk' h2 hq
  · rw [t.other B (m.fzOwn hf hw0 (by rw [hown]; simp) (by rw [hown]; simp) (by rw [hown]; simp))]; exact m.fz B i v hf
  · rcases hob k _ hk with ⟨rfl, e⟩ | ⟨e, h2⟩
    · exact absurd e.symm (hnt n)
    · obtain ⟨a1, a2, a3, a4⟩ := m.tok k n q h2 hq
      have : q.blk ≠ p.blk := by intro z; rw [z, hown] at a1; cases a1
      exact ⟨a1, a2, by simpa only [TokR, t.other _ this] using a3, a4⟩
  · rcases hob k _ hk with ⟨rfl, e⟩ | ⟨e, h2⟩
    · exact absurd e.symm (hnt n)
    · exact m.tokn k n n' h2 hn
  · rcases hob k _ hk with ⟨rfl, e⟩ | ⟨e, h2⟩
    · exact absurd e.symm (hnt n)
    · exact m.toko k n h2
  · obtain ⟨a1, a2, cs, a3, a4⟩ := m.loc d q hq
    have : q.blk ≠ p.blk := by intro z; rw [z, hown] at a1; cases a1
    exact ⟨a1, a2, cs, a3, a4.world (t.other _ this)⟩
  · obtain ⟨a1, a2⟩ := m.prot B x hx
    have : B ≠ p.blk := by rintro rfl; rw [hown] at a2; cases a2
    exact ⟨by rw [t.other _ this]; exact a1, a2⟩
  · simp only [H.put]; rw [if_neg]; · exact ho
    rintro rfl; rw [hp] at he; cases he

/-- a variable of the frame is changed. -/
theorem MR.putLc (m : MR E F h w0 w) {d : Nat} {cs : List V} {p : Place} (hp : F.loc d = some p) (t : Turn p.blk w w1) (hc : CellsR E cs p w1) : MR E F { h with lc := (d, cs) :: h.lc } w0 w1 := by
  obtain ⟨hown, hw0, cs0, hl, hc0⟩ := m.loc d p hp
  refine ⟨Below.turn m.below t hw0, m.fresh, m.glo, m.glb, m.gbl, fun B hB => by rw [t.size]; exact m.lto B hB, fun k o q hk hq => ?_, m.oOb, fun B i v hf => ?_, m.oFz, fun k n q hk hq => ?_, m.tokn, m.toko, fun d' q hq => ?_, fun B x hx => ?_⟩
  · exact (m.obj k o q hk hq).world (t.other _ (m.obOwn hk hq hw0 (fun b' hb' => by rw [hown] at hb'; cases hb')))
  · rw [t.other B (m.fzOwn hf hw0 (by rw [hown]; simp) (by rw [hown]; simp) (by rw [hown]; simp))]; exact m.fz B i v hf
  · obtain ⟨a1, a2, a3, a4⟩ := m.tok k n q hk hq
    have : q.blk ≠ p.blk := by intro z; rw [z, hown] at a1; cases a1
    exact ⟨a1, a2, by simpa only [TokR, t.other _ this] using a3, a4⟩
  · by_cases e : d' = d
    · subst e
      rw [hp] at hq; cases hq
      exact ⟨hown, hw0, cs, by simp [lg_cons], hc⟩
    · obtain ⟨a1, a2, cs', a3, a4⟩ := m.loc d' q hq
      have : q.blk ≠ p.blk := by intro z; rw [z, hown] at a1; cases a1; exact e rfl
      exact ⟨a1, a2, cs', by rw [lg_cons, if_neg e]; exact a3, a4.world (t.other _ this)⟩
  · obtain ⟨a1, a2⟩ := m.prot B x hx
    have : B ≠ p.blk := by rintro rfl; rw [hown] at a2; cases a2
    exact ⟨by rw [t.other _ this]; exact a1, a2⟩

/-- only heap, tape, output and system count. -/
theorem MR.drawn (m : MR E F h w0 w) (n : Nat) : MR E F h w0 { w with drawn := n } :=
  ⟨⟨m.below.os, m.below.tape, m.below.output, m.below.size, m.below.block⟩, m.fresh, m.glo, m.glb, m.gbl, m.lto, fun b o p hb hp => (m.obj b o p hb hp).world rfl, m.oOb, m.fz, m.oFz, m.tok, m.tokn, m.toko, m.loc, m.prot⟩

/-! ### new memory -/
theorem H.new_ob (h : H) (o : Obj) (k : Nat) : (h.new o).ob k = if k = h.nxt then some o else h.ob k := rfl

/-- an object that is not there yet. -/
theorem MR.ghost (m : MR E F h w0 w) (o : Obj) (hnt : ∀ n, o = .tok n → n = 0) : MR E F (h.new o) w0 w ∧ Ext E h E (h.new o) ∧ E.ob h.nxt = none ∧ (h.new o).ob h.nxt = some o := by
  obtain ⟨f1, f2, f3⟩ := m.fresh h.nxt (Nat.le_refl _)
  have hob : ∀ k o', (h.new o).ob k = some o' → (k = h.nxt ∧ o' = o) ∨ (k ≠ h.nxt ∧ h.ob k = some o') := by
    intro k o' hk
    rw [H.new_ob] at hk
    split at hk
    · rename_i e; cases hk; exact .inl ⟨e, rfl⟩
    · rename_i e; exact .inr ⟨e, hk⟩
  refine ⟨⟨m.below, fun k hk => ?_, Nat.le_succ_of_le m.glo, fun k o' hk ho => ?_, m.gbl, m.lto, fun k o' q hk hq => ?_, fun k o' q hk' hk hq => ?_, m.fz, m.oFz, fun k n q hk hq => ?_, fun k n n' hk hn => ?_, fun k n hk => ?_, m.loc, m.prot⟩,
    ⟨Env.le_refl E, fun _ _ => rfl, Nat.le_succ _, fun k o' hk _ ho _ => by rw [H.new_ob, if_neg (by omega)]; exact ho⟩, f1, by rw [H.new_ob, if_pos rfl]⟩
  · have hk' : h.nxt + 1 ≤ k := hk
    obtain ⟨a1, a2, a3⟩ := m.fresh k (by omega)
    exact ⟨a1, by rw [H.new_ob, if_neg (by omega)]; exact a2, a3⟩
  · rcases hob k o' ho with ⟨rfl, rfl⟩ | ⟨_, h2⟩
    · have := m.glo; omega
    · exact m.glb k o' hk h2
  · rcases hob k o' hk with ⟨rfl, rfl⟩ | ⟨_, h2⟩
    · rw [f1] at hq; cases hq
    · exact m.obj k o' q h2 hq
  · rcases hob k o' hk with ⟨rfl, rfl⟩ | ⟨_, h2⟩
    · rw [f1] at hq; cases hq
    · exact m.oOb k o' q hk' h2 hq
  · rcases hob k _ hk with ⟨rfl, e⟩ | ⟨_, h2⟩
    · rw [f3] at hq; cases hq
    · exact m.tok k n q h2 hq
  · rcases hob k _ hk with ⟨rfl, e⟩ | ⟨_, h2⟩
    · exact f3 _
    · exact m.tokn k n n' h2 hn
  · rcases hob k _ hk with ⟨rfl, e⟩ | ⟨_, h2⟩
    · exact f1
    · exact m.toko k n h2

def updO (f : Nat → Own) (B : Nat) (x : Own) : Nat → Own := fun k => if k = B then x else f k

/-- a block more, that nobody has. -/
theorem push_old {ob : Go.Obj} {k : Nat} (hk : k < w.heap.size) : (w.heap.push ob)[k]? = w.heap[k]? := by rw [Array.getElem?_push, if_neg (by omega)]

theorem MR.fresh_own (m : MR E F h w0 w) : F.own w.heap.size = .no := by
  cases hq : F.own w.heap.size with
  | no => rfl
  | _ => exact absurd (m.lto w.heap.size (by rw [hq]; simp)) (Nat.lt_irrefl _)

/-- the model makes the block of an object that had none. -/
def updE (E : Env) (b : Nat) (p : Place) : Env := { E with ob := fun k => if k = b then some p else E.ob k }

theorem updE_le {b : Nat} {p : Place} (h : E.ob b = none) : E.le (updE E b p) := by
  refine ⟨fun k q hk => ?_, fun _ _ _ h => h, fun _ _ _ h => h⟩
  simp only [updE]
  rw [if_neg]
  · exact hk
  · rintro rfl; rw [h] at hk; cases hk

theorem MR.place (m : MR E F h w0 w) {b : Nat} {p : Place} {o : Obj} (hb : h.ob b = some o) (hE : E.ob b = none) (hg : glim ≤ b) (hnt : ∀ n, o ≠ .tok n) (ob : Go.Obj) (hblk : p.blk = w.heap.size)
    (hobj : ObjR (updE E b p) o p { w with heap := w.heap.push ob }) :
    MR (updE E b p) { F with own := updO F.own w.heap.size (.ob b) } h w0 { w with heap := w.heap.push ob } := by
  have hle := updE_le (p := p) hE
  have hown := m.fresh_own
  have hup : ∀ k q, (updE E b p).ob k = some q → (k = b ∧ q = p) ∨ (k ≠ b ∧ E.ob k = some q) := by
    intro k q hk
    simp only [updE] at hk
    split at hk
    · rename_i e; cases hk; exact .inl ⟨e, rfl⟩
    · rename_i e; exact .inr ⟨e, hk⟩
  have howne : ∀ B, B < w.heap.size → updO F.own w.heap.size (.ob b) B = F.own B := fun B hB => by unfold updO; rw [if_neg (by omega)]
  refine ⟨⟨m.below.os, m.below.tape, m.below.output, by simpa using Nat.le_succ_of_le m.below.size, fun k hk => ?_⟩, fun k hk => ?_, m.glo, m.glb, fun k q hk hq => ?_, fun B hB => ?_, fun k o' q hk hq => ?_, fun k o' q hk' hk hq => ?_, fun B i v hf => ?_, fun B i v hf hB => ?_, fun k n q hk hq => ?_, m.tokn, fun k n hk => ?_, fun d q hq => ?_, fun B x hx => ?_⟩
  · exact (push_old (Nat.lt_of_lt_of_le hk m.below.size)).trans (m.below.block k hk)
  · obtain ⟨a1, a2, a3⟩ := m.fresh k hk
    refine ⟨?_, a2, a3⟩
    simp only [updE]; rw [if_neg (by have := m.nxt_of hb; omega)]; exact a1
  · rcases hup k q hq with ⟨rfl, rfl⟩ | ⟨_, h2⟩
    · omega
    · exact m.gbl k q hk h2
  · simp only [updO] at hB
    simp only [Array.size_push]
    split at hB
    · omega
    · have := m.lto B hB; omega
  · rcases hup k q hq with ⟨rfl, rfl⟩ | ⟨_, h2⟩
    · rw [hb] at hk; cases hk; exact hobj
    · exact ((m.obj k o' q hk h2).mono hle).world (push_old (m.lt hk h2))
  · rcases hup k q hq with ⟨rfl, rfl⟩ | ⟨_, h2⟩
    · rw [hblk]; exact ⟨by simp [updO], m.below.size⟩
    · obtain ⟨a1, a2⟩ := m.oOb k o' q hk' hk h2
      exact ⟨by show updO F.own w.heap.size (.ob b) q.blk = _; rw [howne _ (m.lt hk h2)]; exact a1, a2⟩
  · have hlt := m.fzlt hf
    show ∃ c el q, (w.heap.push ob)[B]? = _ ∧ _
    rw [push_old hlt]; exact m.fz B i v hf
  · show updO F.own w.heap.size (.ob b) B = .fz ∨ (∃ b', updO F.own w.heap.size (.ob b) B = .tk b') ∨ ∃ k', updO F.own w.heap.size (.ob b) B = .pr (some k') ∧ i < k'
    rw [howne _ (m.fzlt hf)]; exact m.oFz B i v hf hB
  · obtain ⟨a1, a2, a3, a4⟩ := m.tok k n q hk hq
    have hlt : q.blk < w.heap.size := m.lto _ (by rw [a1]; simp)
    refine ⟨by show updO F.own w.heap.size (.ob b) q.blk = _; rw [howne _ hlt]; exact a1, a2, ?_, a4⟩
    show ∃ c el lo hi, (w.heap.push ob)[q.blk]? = _ ∧ _
    rw [push_old hlt]; exact a3
  · have := m.toko k n hk
    simp only [updE]
    rw [if_neg]; · exact this
    rintro rfl; rw [hb] at hk; cases hk; exact hnt n rfl
  · obtain ⟨a1, a2, cs, a3, a4⟩ := m.loc d q hq
    have hlt : q.blk < w.heap.size := m.lto _ (by rw [a1]; simp)
    exact ⟨by show updO F.own w.heap.size (.ob b) q.blk = _; rw [howne _ hlt]; exact a1, a2, cs, a3, (a4.mono hle).world (push_old hlt)⟩
  · obtain ⟨a1, a2⟩ := m.prot B x hx
    have hlt : B < w.heap.size := m.lto _ (by rw [a2]; simp)
    exact ⟨(push_old hlt).trans a1, by show updO F.own w.heap.size (.ob b) B = _; rw [howne _ hlt]; exact a2⟩

/-- a variable of the frame is made. -/
theorem MR.local (m : MR E F h w0 w) {d : Nat} {cs : List V} (ob : Go.Obj) {p : Place} (hblk : p.blk = w.heap.size) (hc : CellsR E cs p { w with heap := w.heap.push ob }) :
    MR E { F with loc := fun k => if k = d then some p else F.loc k, own := updO F.own w.heap.size (.lc d) } { h with lc := (d, cs) :: h.lc } w0 { w with heap := w.heap.push ob } := by
  have hown := m.fresh_own
  have howne : ∀ B, B < w.heap.size → updO F.own w.heap.size (.lc d) B = F.own B := fun B hB => by unfold updO; rw [if_neg (by omega)]
  refine ⟨⟨m.below.os, m.below.tape, m.below.output, by simpa using Nat.le_succ_of_le m.below.size, fun k hk => ?_⟩, m.fresh, m.glo, m.glb, m.gbl, fun B hB => ?_, fun k o' q hk hq => ?_, fun k o' q hk' hk hq => ?_, fun B i v hf => ?_, fun B i v hf hB => ?_, fun k n q hk hq => ?_, m.tokn, m.toko, fun d' q hq => ?_, fun B x hx => ?_⟩
  · exact (push_old (Nat.lt_of_lt_of_le hk m.below.size)).trans (m.below.block k hk)
  · simp only [updO] at hB
    simp only [Array.size_push]
    split at hB
    · omega
    · have := m.lto B hB; omega
  · exact (m.obj k o' q hk hq).world (push_old (m.lt hk hq))
  · obtain ⟨a1, a2⟩ := m.oOb k o' q hk' hk hq
    exact ⟨by show updO F.own w.heap.size (.lc d) q.blk = _; rw [howne _ (m.lt hk hq)]; exact a1, a2⟩
  · have hlt := m.fzlt hf
    show ∃ c el q, (w.heap.push ob)[B]? = _ ∧ _
    rw [push_old hlt]; exact m.fz B i v hf
  · show updO F.own w.heap.size (.lc d) B = .fz ∨ (∃ b', updO F.own w.heap.size (.lc d) B = .tk b') ∨ ∃ k', updO F.own w.heap.size (.lc d) B = .pr (some k') ∧ i < k'
    rw [howne _ (m.fzlt hf)]; exact m.oFz B i v hf hB
  · obtain ⟨a1, a2, a3, a4⟩ := m.tok k n q hk hq
    have hlt : q.blk < w.heap.size := m.lto _ (by rw [a1]; simp)
    refine ⟨by show updO F.own w.heap.size (.lc d) q.blk = _; rw [howne _ hlt]; exact a1, a2, ?_, a4⟩
    show ∃ c el lo hi, (w.heap.push ob)[q.blk]? = _ ∧ _
    rw [push_old hlt]; exact a3
  · have hq' : (if d' = d then some p else F.loc d') = some q := hq
    split at hq'
    · rename_i e
      cases hq'; subst e
      exact ⟨by rw [hblk]; simp [updO], by rw [hblk]; exact m.below.size, cs, by simp [lg_cons], hc⟩
    · rename_i e
      obtain ⟨a1, a2, cs', a3, a4⟩ := m.loc d' q hq'
      have hlt : q.blk < w.heap.size := m.lto _ (by rw [a1]; simp)
      exact ⟨by show updO F.own w.heap.size (.lc d) q.blk = _; rw [howne _ hlt]; exact a1, a2, cs', by rw [lg_cons, if_neg e]; exact a3, a4.world (push_old hlt)⟩
  · obtain ⟨a1, a2⟩ := m.prot B x hx
    have hlt : B < w.heap.size := m.lto _ (by rw [a2]; simp)
    exact ⟨(push_old hlt).trans a1, by show updO F.own w.heap.size (.lc d) B = _; rw [howne _ hlt]; exact a2⟩

/-- a new block of cells that never change, up to a bound; behind them one may append, if that is wanted. -/
def updZ (E : Env) (B n : Nat) (c : Array Value) : Env := { E with fz := fun k i => if k = B then (if i < n then c[i]? else none) else E.fz k i }

theorem MR.updZ_le (m : MR E F h w0 w) (n : Nat) (c : Array Value) : E.le (updZ E w.heap.size n c) := by
  refine ⟨fun _ _ h => h, fun B i v hf => ?_, fun _ _ _ h => h⟩
  simp only [updZ]
  rw [if_neg]
  · exact hf
  · rintro rfl; exact absurd (m.fzlt hf) (Nat.lt_irrefl _)

theorem MR.frozen (m : MR E F h w0 w) (n : Nat) (c : Array Value) (el : TypeId) (q : Nat × Nat) (x : Own) (hx : x = .fz ∨ ∃ b, x = .tk b) :
    MR (updZ E w.heap.size n c) { F with own := updO F.own w.heap.size x } h w0 { w with heap := w.heap.push (.cells c el q) } := by
  have hle := m.updZ_le n c
  have hown := m.fresh_own
  have hx0 : x ≠ .no := by rcases hx with rfl | ⟨b, rfl⟩ <;> simp
  have howne : ∀ B, B < w.heap.size → updO F.own w.heap.size x B = F.own B := fun B hB => by unfold updO; rw [if_neg (by omega)]
  have hfe : ∀ B i v, (updZ E w.heap.size n c).fz B i = some v → (B = w.heap.size ∧ c[i]? = some v) ∨ (B ≠ w.heap.size ∧ E.fz B i = some v) := by
    intro B i v hf
    simp only [updZ] at hf
    split at hf
    · rename_i e
      split at hf
      · exact .inl ⟨e, hf⟩
      · cases hf
    · rename_i e; exact .inr ⟨e, hf⟩
  refine ⟨⟨m.below.os, m.below.tape, m.below.output, by simpa using Nat.le_succ_of_le m.below.size, fun k hk => ?_⟩, m.fresh, m.glo, m.glb, m.gbl, fun B hB => ?_, fun k o' q hk hq => ?_, fun k o' q hk' hk hq => ?_, fun B i v hf => ?_, fun B i v hf hB => ?_, fun k n' q hk hq => ?_, m.tokn, m.toko, fun d' q hq => ?_, fun B x hx => ?_⟩
  · exact (push_old (Nat.lt_of_lt_of_le hk m.below.size)).trans (m.below.block k hk)
  · simp only [updO] at hB
    simp only [Array.size_push]
    split at hB
    · omega
    · have := m.lto B hB; omega
  · exact ((m.obj k o' q hk hq).mono hle).world (push_old (m.lt hk hq))
  · obtain ⟨a1, a2⟩ := m.oOb k o' q hk' hk hq
    exact ⟨by show updO F.own w.heap.size x q.blk = _; rw [howne _ (m.lt hk hq)]; exact a1, a2⟩
  · rcases hfe B i v hf with ⟨rfl, h2⟩ | ⟨_, h2⟩
    · exact ⟨c, el, q, by simp, h2⟩
    · have hlt := m.fzlt h2
      show ∃ c el q, (w.heap.push _)[B]? = _ ∧ _
      rw [push_old hlt]; exact m.fz B i v h2
  · rcases hfe B i v hf with ⟨rfl, h2⟩ | ⟨_, h2⟩
    · show updO F.own w.heap.size x w.heap.size = .fz ∨ (∃ b', updO F.own w.heap.size x w.heap.size = .tk b') ∨ ∃ k', updO F.own w.heap.size x w.heap.size = .pr (some k') ∧ i < k'
      simp only [updO, if_true]; exact hx.elim .inl (fun z => .inr (.inl z))
    · show updO F.own w.heap.size x B = .fz ∨ (∃ b', updO F.own w.heap.size x B = .tk b') ∨ ∃ k', updO F.own w.heap.size x B = .pr (some k') ∧ i < k'
      rw [howne _ (m.fzlt h2)]; exact m.oFz B i v h2 hB
  · obtain ⟨a1, a2, a3, a4⟩ := m.tok k n' q hk hq
    have hlt : q.blk < w.heap.size := m.lto _ (by rw [a1]; simp)
    refine ⟨by show updO F.own w.heap.size x q.blk = _; rw [howne _ hlt]; exact a1, a2, ?_, fun i hi => ?_⟩
    · show ∃ c el lo hi, (w.heap.push _)[q.blk]? = _ ∧ _
      rw [push_old hlt]; exact a3
    · simp only [updZ]; rw [if_neg (by omega)]; exact a4 i hi
  · obtain ⟨a1, a2, cs, a3, a4⟩ := m.loc d' q hq
    have hlt : q.blk < w.heap.size := m.lto _ (by rw [a1]; simp)
    exact ⟨by show updO F.own w.heap.size x q.blk = _; rw [howne _ hlt]; exact a1, a2, cs, a3, (a4.mono hle).world (push_old hlt)⟩
  · obtain ⟨a1, a2⟩ := m.prot B x hx
    have hlt : B < w.heap.size := m.lto _ (by rw [a2]; simp)
    exact ⟨(push_old hlt).trans a1, by show updO F.own w.heap.size _ B = _; rw [howne _ hlt]; exact a2⟩

theorem updZ_FZ {B n : Nat} {c : Array Value} {l : List V} {l' : List Value} (hle : E.le (updZ E B n c)) (r : ARs E l l') (off : Nat) (hn : off + l.length ≤ n) (hall : l.all V.isCell = true) (hc : ∀ i v, l'[i]? = some v → c[off + i]? = some v) : FZ (updZ E B n c) B off l :=
  FZ.of_get fun i v hv => by
    obtain ⟨v', a, b⟩ := r.get i v hv
    refine ⟨List.all_eq_true.1 hall v (List.mem_of_getElem? hv), v', ?_, b.mono hle⟩
    have hi : i < l.length := (List.getElem?_eq_some_iff.1 hv).1
    simp only [updZ, if_true]
    rw [if_pos (by omega)]; exact hc i v' a

/-- less is known of memory. -/
theorem MR.forget (m : MR E F h w0 w) {h' : H} (hn : h'.nxt = h.nxt) (ho : ∀ b o, h'.ob b = some o → h.ob b = some o) (hl : ∀ d p cs, F.loc d = some p → lg h.lc d = some cs → lg h'.lc d = some cs) : MR E F h' w0 w := by
  refine ⟨m.below, fun b hb => ?_, by rw [hn]; exact m.glo, fun b o hb h => m.glb b o hb (ho b o h), m.gbl, m.lto, fun b o p hb hp => m.obj b o p (ho b o hb) hp, fun b o p hg hb hp => m.oOb b o p hg (ho b o hb) hp, m.fz, m.oFz,
    fun b n p hb hp => m.tok b n p (ho _ _ hb) hp, fun b n n' hb hn => m.tokn b n n' (ho _ _ hb) hn, fun b n hb => m.toko b n (ho _ _ hb), fun d p hp => ?_, m.prot⟩
  · obtain ⟨a1, a2, a3⟩ := m.fresh b (by rw [← hn]; exact hb)
    refine ⟨a1, ?_, a3⟩
    cases hq : h'.ob b with
    | none => rfl
    | some o => have := ho b o hq; rw [a2] at this; cases this
  · obtain ⟨a1, a2, cs, a3, a4⟩ := m.loc d p hp
    exact ⟨a1, a2, cs, hl d p cs hp a3, a4⟩

/-- variables of the frame are forgotten. -/
theorem MR.forgetLoc (m : MR E F h w0 w) {L : Nat → Option Place} (hL : Lle L F.loc) : MR E { F with loc := L } h w0 w :=
  ⟨m.below, m.fresh, m.glo, m.glb, m.gbl, m.lto, m.obj, m.oOb, m.fz, m.oFz, m.tok, m.tokn, m.toko, fun d p hp => m.loc d p (hL d p hp), m.prot⟩

theorem kill_ext (m : MR E F h w0 w) {b : Nat} (hb : (∃ p, E.ob b = some p) ∨ (∃ n, h.ob b = some (.tok n)) ∨ h.ob b = none) : Ext E h E (h.kill b) := by
  refine ⟨Env.le_refl E, fun _ _ => rfl, Nat.le_refl _, fun k o hk he ho hn => ?_⟩
  simp only [H.kill]
  rw [if_neg]
  · exact ho
  · rintro rfl
    rcases hb with ⟨p, hp⟩ | ⟨n, hq⟩ | hq
    · rw [he] at hp; cases hp
    · rw [ho] at hq; cases hq; exact hn n rfl
    · rw [ho] at hq; cases hq

theorem MR.killed (m : MR E F h w0 w) (b : Nat) : MR E F (h.kill b) w0 w := by
  refine m.forget rfl (fun k o hk => ?_) (fun _ _ _ _ h => h)
  simp only [H.kill] at hk
  split at hk
  · cases hk
  · exact hk
end
end Go.VM
