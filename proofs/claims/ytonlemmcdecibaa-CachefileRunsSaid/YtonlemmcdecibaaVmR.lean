/- laid for this seat: VmRange VmSl5 VmOwn VmFreeze VmRow VmFrz -/
import Derived.Test.YtonlemmcdecibaaVmE
import Derived.Test.YtonlemmcdecibaaVmG
section
/- The machine of values: loops over functions. -/
set_option linter.unusedVariables false
set_option linter.unusedSimpArgs false
namespace Go.VM
open Go.RowKit
variable {P : Program} {gl : List Nat}
end Go.VM
end
section
/- The machine of values: loops over functions, over listed memory. -/
set_option linter.unusedVariables false
set_option linter.unusedSimpArgs false
namespace Go.VM
open Go.RowKit
variable {P : Program} {gl : List Nat}
section
variable {fr : Fr} {QN : S → Prop} {QX : X → S → Prop} {ds : List Nat} {anc : Nat} {hs : List (RI × List RI)} {l : List RI} {r : RI} {tm tm1 : TM} {df : List AD} {u : Option AMode} {nx : Nat} {ol : OL} {lc : LM} {es : List ER}
end
abbrev RI.mv (s d : Nat) : RI := ⟨0, 0, some (.mv (.t s)), [], some d, none⟩
abbrev RI.op (r : RO) (d : Nat) : RI := ⟨0, 0, some r, [], some d, none⟩
end Go.VM
end
section
/- The machine of values: rows that grow and are changed: appends to a slice over an object that nobody else has. -/
set_option linter.unusedVariables false
set_option linter.unusedSimpArgs false
namespace Go.VM
open Go.RowKit
variable {P : Program}
theorem kn_ob (h : H) (b : Nat) (o : Obj) (k : Nat) : ((h.kill b).new o).ob k = if k = h.nxt then some o else if k = b then none else h.ob k := rfl
theorem MR.rekey {E : Env} {F : Fx} {h : H} {w0 w : World} (m : MR E F h w0 w) {b : Nat} {o : Obj} {p : Place} (hb : h.ob b = some o) (hp : E.ob b = some p) (hg : glim ≤ b) (hnt : ∀ n, o ≠ .tok n) :
  MR (updE E h.nxt p) { F with own := updO F.own p.blk (.ob h.nxt) } ((h.kill b).new o) w0 w ∧ Ext E h (updE E h.nxt p) ((h.kill b).new o) := by
 obtain ⟨f1, f2, f3⟩ := m.fresh h.nxt (Nat.le_refl _)
 obtain ⟨hown, hw0⟩ := m.oOb b o p hg hb hp
 have hlt := m.lt hb hp
 have hbn := m.nxt_of hb
 have hle := updE_le (p := p) f1
 have hob : ∀ k o', ((h.kill b).new o).ob k = some o' → (k = h.nxt ∧ o' = o) ∨ (k ≠ h.nxt ∧ k ≠ b ∧ h.ob k = some o') := by
  intro k o' hk
  rw [kn_ob] at hk
  split at hk
  ·rename_i e; cases hk; exact .inl ⟨e, rfl⟩
  ·rename_i e
   split at hk
   ·cases hk
   ·rename_i e2; exact .inr ⟨e, e2, hk⟩
 have hup : ∀ k q, (updE E h.nxt p).ob k = some q → (k = h.nxt ∧ q = p) ∨ (k ≠ h.nxt ∧ E.ob k = some q) := by
  intro k q hk
  simp only [updE] at hk
  split at hk
  ·rename_i e; cases hk; exact .inl ⟨e, rfl⟩
  ·rename_i e; exact .inr ⟨e, hk⟩
 have hne : ∀ B, F.own B ≠ .ob b → updO F.own p.blk (.ob h.nxt) B = F.own B := by
  intro B hB
  unfold updO
  rw [if_neg]
  rintro rfl; exact hB hown
 refine ⟨⟨m.below, fun k hk => ?_, Nat.le_succ_of_le m.glo, fun k o' hk ho => ?_, fun k q hk hq => ?_, fun B hB => ?_, fun k o' q hk hq => ?_, fun k o' q hk' hk hq => ?_, m.fz, fun B i v hf hB => ?_, fun k n q hk hq => ?_, fun k n n' hk hn => ?_, fun k n hk => ?_, fun d q hq => ?_, fun B x hx => ?_⟩, hle, fun k hk => ?_, Nat.le_succ _, fun k o' hk he ho hn => ?_⟩
 ·have hk : h.nxt + 1 ≤ k := hk
  obtain ⟨a1, a2, a3⟩ := m.fresh k (by omega)
  refine ⟨?_, ?_, a3⟩
  ·simp only [updE]; rw [if_neg (by omega)]; exact a1
  ·rw [kn_ob, if_neg (by omega)]; split <;> first | rfl | exact a2
 ·rcases hob k o' ho with ⟨rfl, _⟩ | ⟨_, _, h2⟩
  ·have := m.glo; omega
  ·exact m.glb k o' hk h2
 ·rcases hup k q hq with ⟨rfl, _⟩ | ⟨_, h2⟩
  ·have := m.glo; omega
  ·exact m.gbl k q hk h2
 ·by_cases e : B = p.blk
  ·subst e; exact hlt
  ·have hB : updO F.own p.blk (.ob h.nxt) B ≠ .no := hB
   unfold updO at hB; rw [if_neg e] at hB; exact m.lto B hB
 ·rcases hob k o' hk with ⟨rfl, rfl⟩ | ⟨e1, _, h2⟩
  ·rcases hup _ q hq with ⟨_, rfl⟩ | ⟨e, _⟩
   ·exact (m.obj b o' q hb hp).mono hle
   ·exact absurd rfl e
  ·rcases hup _ q hq with ⟨e, _⟩ | ⟨_, h3⟩
   ·exact absurd e e1
   ·exact (m.obj k o' q h2 h3).mono hle
 ·rcases hob k o' hk with ⟨rfl, rfl⟩ | ⟨e1, e2, h2⟩
  ·rcases hup _ q hq with ⟨_, rfl⟩ | ⟨e, _⟩
   ·exact ⟨by show updO F.own q.blk _ q.blk = _; unfold updO; rw [if_pos rfl], hw0⟩
   ·exact absurd rfl e
  ·rcases hup _ q hq with ⟨e, _⟩ | ⟨_, h3⟩
   ·exact absurd e e1
   ·obtain ⟨a1, a2⟩ := m.oOb k o' q hk' h2 h3
    exact ⟨(hne _ (by rw [a1]; intro z; cases z; exact e2 rfl)).trans a1, a2⟩
 ·show updO F.own p.blk (.ob h.nxt) B = .fz ∨ (∃ b', updO F.own p.blk (.ob h.nxt) B = .tk b') ∨ ∃ k', updO F.own p.blk (.ob h.nxt) B = .pr (some k') ∧ i < k'
  rw [hne]
  ·exact m.oFz B i v hf hB
  ·rcases m.oFz B i v hf hB with g | ⟨b', g⟩ | ⟨k', g, _⟩ <;> rw [g] <;> simp
 ·rcases hob k _ hk with ⟨rfl, e⟩ | ⟨_, _, h2⟩
  ·exact absurd e.symm (hnt n)
  ·obtain ⟨a1, a2, a3, a4⟩ := m.tok k n q h2 hq
   exact ⟨(hne _ (by rw [a1]; simp)).trans a1, a2, a3, a4⟩
 ·rcases hob k _ hk with ⟨rfl, e⟩ | ⟨_, _, h2⟩
  ·exact absurd e.symm (hnt n)
  ·exact m.tokn k n n' h2 hn
 ·rcases hob k _ hk with ⟨rfl, e⟩ | ⟨e1, _, h2⟩
  ·exact absurd e.symm (hnt n)
  ·simp only [updE]; rw [if_neg e1]; exact m.toko k n h2
 ·obtain ⟨a1, a2, cs, a3, a4⟩ := m.loc d q hq
  exact ⟨(hne _ (by rw [a1]; simp)).trans a1, a2, cs, a3, a4.mono hle⟩
 ·obtain ⟨a1, a2⟩ := m.prot B x hx
  exact ⟨a1, (hne _ (by rw [a2]; simp)).trans a2⟩
 ·simp only [updE]; rw [if_neg (by omega)]
 ·rw [kn_ob, if_neg (by have := m.nxt_of ho; omega), if_neg]
  ·exact ho
  ·rintro rfl; rw [he] at hp; cases hp
theorem CellsR.grow {E : Env} {cs vs : List V} {vs' : List Value} {p : Place} {w : World} (r : CellsR E cs p w) (hfit : cs.length + vs.length ≤ p.ext) (hall : vs.all V.isCell = true) (hv : ARs E vs vs') :
  (storeCells ⟨p.blk, p.off + cs.length, none⟩ vs').run P w = .ok () (w.setCells p.blk (p.off + cs.length) vs') ∧ CellsR E (cs ++ vs) p (w.setCells p.blk (p.off + cs.length) vs') := by
 obtain ⟨c, el, lo, hi, h1, h2, h3, h4, h5⟩ := r
 have hlen := hv.length
 have hone : ∀ v ∈ vs', v.oneCell' = true := by
  intro v hmem
  obtain ⟨i, hi⟩ := List.mem_iff_getElem?.1 hmem
  have hilt : i < vs.length := by rw [hlen]; exact (List.getElem?_eq_some_iff.1 hi).1
  obtain ⟨v', hv', ha⟩ := hv.get i vs[i] (by simp)
  rw [hi] at hv'; cases hv'
  exact ha.oneCell ((List.all_eq_true.1 hall) vs[i] (List.getElem_mem _))
 have hin : ∀ j, j < vs'.length → p.off + cs.length + j < c.size := by intro j hj; omega
 have hcell : ∀ j, j < vs'.length → (w.cell? ⟨p.blk, p.off + cs.length + 0 + j, none⟩).isSome = true := by
  intro j hj; rw [cell_of h1]; have := hin j hj; simp; omega
 have hfr : ∀ j, j < vs'.length → w.frozen? ⟨p.blk, p.off + cs.length + 0 + j, none⟩ = false := by
  intro j hj; exact frozen_of h1 h2 _ (by have := hin j hj; omega)
 have hrun := run_storeCells_cells (P := P) p.blk (p.off + cs.length) vs' 0 w hcell hfr hone
 refine ⟨hrun, ?_⟩
 refine ⟨writeAt c (p.off + cs.length) vs', el, lo, hi, setCells_heap _ _ _ _ _ _ _ h1, fun i hi => h2 i (by rwa [writeAt_size] at hi), by rw [writeAt_size]; exact h3, by simp; omega, fun i v hv' => ?_⟩
 by_cases hi1 : i < cs.length
 ·have : cs[i]? = some v := by rwa [List.getElem?_append_left hi1] at hv'
  obtain ⟨a1, v', a2, a3⟩ := h5 i v this
  exact ⟨a1, v', by rw [writeAt_out _ _ _ _ (by omega)]; exact a2, a3⟩
 ·rw [List.getElem?_append_right (by omega)] at hv'
  obtain ⟨v', b1, b2⟩ := hv.get (i - cs.length) v hv'
  have hi2 : i - cs.length < vs'.length := (List.getElem?_eq_some_iff.1 b1).1
  refine ⟨(List.all_eq_true.1 hall) v (List.mem_of_getElem? hv'), v', ?_, b2⟩
  have := writeAt_in vs' c (p.off + cs.length) (i - cs.length) hi2 (hin _ hi2)
  rw [show p.off + cs.length + (i - cs.length) = p.off + i by omega] at this
  rw [this, b1]
section
variable {gl : List Nat} {nt : Nat} {tm : TM} {h : H}
theorem MR.row {E : Env} {F : Fx} {w0 w : World} (m : MR E F h w0 w) {cs : List V} {c c2 : Array Value} {el : TypeId} {ext : Nat} (r : ARs E cs c.toList) (hc : cs.all V.isCell = true) (h1 : cs.length ≤ ext) (h2 : ext ≤ c2.size) (h3 : ∀ i, i < cs.length → c2[i]? = c[i]?) :
  MR (updE E h.nxt ⟨w.heap.size, 0, ext⟩) { F with own := updO F.own w.heap.size (.ob h.nxt) } (h.new (.cells true cs)) w0 { w with heap := w.heap.push (.cells c2 el (0, 0)) } ∧ Ext E h (updE E h.nxt ⟨w.heap.size, 0, ext⟩) (h.new (.cells true cs)) := by
 obtain ⟨m1, x1, hEb, hget⟩ := m.ghost (.cells true cs) (fun n e => by cases e)
 have hle := updE_le (p := ⟨w.heap.size, 0, ext⟩) hEb
 have hobj : CellsR (updE E h.nxt ⟨w.heap.size, 0, ext⟩) cs ⟨w.heap.size, 0, ext⟩ { w with heap := w.heap.push (.cells c2 el (0, 0)) } := cells_obj (r.mono hle) hc el ext h1 c2 h2 h3 0 0 (fun i _ z => by omega)
 refine ⟨m1.place hget hEb m.glo (fun n e => by cases e) _ rfl hobj, ⟨hle, fun k hk => ?_, x1.nxt, fun k o hk he ho hn => x1.ghost k o hk he ho hn⟩⟩
 simp only [updE]; rw [if_neg (by omega)]
theorem app_own0 {o : Oper} {x y : RX} {sz bytes : Nat} {z : List V} {ns : List (List V)} (ho : rop P o = some (.app x y sz bytes z)) (hx : rv gl tm x = some (.lst [] (.ex 0))) (hy : NewEs gl tm h y sz ns) (h0 : 0 < ns.length) (hlim : bytes * ns.length ≤ lim) :
  Does P gl nt tm h o (.v (.sl h.nxt 0 ns.length (.op sz))) (h.new (.cells true ns.flatten)) := by
 obtain ⟨dst, ty, pos, after, guard, args, argTypes, rfl, hxs, T⟩ := rop_app ho
 obtain ⟨vy, hvy⟩ := hy.val
 intro E F w0 w tmps m hg r
 obtain ⟨s', y', harr, rs, ry⟩ := two_args hg r hxs hx hvy
 obtain ⟨A, cap, rfl, hle, hc⟩ := lst_val rs
 have hck : cap = 0 := hc _ rfl
 subst hck
 have md := m.drawn (w.drawn + 1)
 obtain ⟨hl, cn0, hcn0, _⟩ := hy.sound (P := P) m hvy ry
 obtain ⟨hl', cn, hcn, rn, hnall⟩ := hy.sound (P := P) md hvy ry
 have lcn : cn.size = ns.length * sz := by have := rn.length; rw [flat_len hy.len, Array.length_toList] at this; exact this.symm
 obtain ⟨co, hco, rc, hcall⟩ := lst_first (P := P) (sz := sz) md rs (fun e h => by cases h)
 have lco : co.size = ([] : List (List V)).length * sz := by have := rc.length; simp at this; simp [← this]
 obtain ⟨el, nc, rest, h1, h2, h3⟩ := run_append_new (ty := ty) T hl (by simp; omega) (by simpa using hlim) hco hcn lco lcn
 have hco0 : co = #[] := by apply Array.eq_empty_of_size_eq_zero; simpa using lco
 subst hco0
 simp only [List.length_nil, Nat.zero_add, Array.empty_append] at h1 h2 h3
 obtain ⟨m1, x1⟩ := md.row (c2 := cn ++ rest) (el := el) (ext := nc * sz) rn hnall (by rw [flat_len hy.len]; exact Nat.mul_le_mul_right _ h1) (by rw [h2]; exact Nat.le_refl _) (fun i hi => by
  rw [flat_len hy.len] at hi
  exact Array.getElem?_append_left (by rw [lcn]; exact hi))
 exact ⟨_, { F with own := updO F.own w.heap.size (.ob h.nxt) }, _, _, _, by rw [exec_builtin, harr]; exact val_run h3, .inl rfl, x1, rfl, rfl, m1, .v _ _ (.slo _ 0 _ _ ⟨w.heap.size, 0, nc * sz⟩ nc (by simp [updE]) (by simp) h1)⟩
theorem app_own {o : Oper} {x y : RX} {sz bytes b n : Nat} {opn : Bool} {z cs : List V} {ns : List (List V)} (ho : rop P o = some (.app x y sz bytes z)) (hx : rv gl tm x = some (.sl b 0 n (.op sz))) (hb : h.ob b = some (.cells opn cs)) (hgb : glim ≤ b) (hlen : cs.length = n * sz) (hn0 : 0 < n) (hy : NewEs gl tm h y sz ns) (h0 : 0 < ns.length) (hlim : bytes * (n + ns.length) ≤ lim) :
  Does P gl nt tm h o (.v (.sl h.nxt 0 (n + ns.length) (.op sz))) ((h.kill b).new (.cells true (cs ++ ns.flatten))) := by
 obtain ⟨dst, ty, pos, after, guard, args, argTypes, rfl, hxs, T⟩ := rop_app ho
 obtain ⟨vy, hvy⟩ := hy.val
 intro E F w0 w tmps m hg r
 obtain ⟨s', y', harr, rs, ry⟩ := two_args hg r hxs hx hvy
 have hs0 := T.s0
 cases rs with
 | sl0 => omega
 | slo _ _ _ _ p c hE hext hnc =>
  have hfl := flat_len hy.len
  by_cases hroom : n + ns.length ≤ c
  ·obtain ⟨hl, cn, hcn, rn, hnall⟩ := hy.sound (P := P) m hvy ry
   have hobj : CellsR E cs p w := m.obj b _ p hb hE
   have hfit : cs.length + ns.flatten.length ≤ p.ext := by
    rw [hlen, hfl, ← Nat.add_mul, ← hext, Nat.zero_add]; exact Nat.mul_le_mul_right _ hroom
   obtain ⟨q1, q2⟩ := hobj.grow (P := P) hfit hnall rn
   obtain ⟨m1, x1⟩ := m.put (new := .cells true (cs ++ ns.flatten)) hb hE hgb (fun n e => by cases e) (Turn.setCells _ _ _ _) q2
   obtain ⟨m2, x2⟩ := m1.rekey (b := b) (o := .cells true (cs ++ ns.flatten)) (by simp [H.put]) hE hgb (fun n e => by cases e)
   have e : ((h.put b (.cells true (cs ++ ns.flatten))).kill b).new (.cells true (cs ++ ns.flatten)) = (h.kill b).new (.cells true (cs ++ ns.flatten)) := by
    simp only [H.new, H.kill, H.put]
    congr 1
    funext k
    by_cases e1 : k = b
    ·simp [e1]
    ·simp [e1]
   rw [e] at m2 x2
   have hrun := run_append_stay (ty := ty) T (base := some ⟨p.blk, p.off + 0, none⟩) (sl := n) (n := ns.length) (cap := c) hl hcn hroom (w' := w.setCells p.blk (p.off + cs.length) cn.toList) (by
    show (storeCells (Addr.add _ _) _).run P w = _
    rw [add_zero, Nat.add_zero, ← hlen]; exact q1)
   exact ⟨_, { F with own := updO F.own p.blk (.ob h.nxt) }, _, _, _, by rw [exec_builtin, harr]; exact val_run hrun, .inl rfl, x1.trans x2, rfl, rfl, m2, .v _ _ (.slo _ _ _ _ p c (by simp [updE, H.put]) hext hroom)⟩
  ·have md := m.drawn (w.drawn + 1)
   obtain ⟨hl, cn0, hcn0, _⟩ := hy.sound (P := P) m hvy ry
   obtain ⟨hl', cn, hcn, rn, hnall⟩ := hy.sound (P := P) md hvy ry
   have lcn : cn.size = ns.length * sz := by have := rn.length; rw [hfl, Array.length_toList] at this; exact this.symm
   obtain ⟨l', g1, g2, g3, g4, g5⟩ := (CellsR.seen (show CellsR E cs p _ from md.obj b _ p hb hE)).read (P := P) (readC_all hlen)
   have lco : l'.toArray.size = n * sz := by rw [← g3, g2.length]; simp
   obtain ⟨el, nc, rest, h1, h2, h3⟩ := run_append_new (ty := ty) T hl (by omega) hlim (base := some ⟨p.blk, p.off + 0, none⟩) (cap := c) (co := l'.toArray) (by simpa [Builtin.firstCells] using g1) hcn lco lcn
   have kx := kill_ext md (b := b) (.inl ⟨p, hE⟩)
   obtain ⟨m1, x1⟩ := (md.killed b).row (cs := cs ++ ns.flatten) (c := l'.toArray ++ cn) (c2 := l'.toArray ++ cn ++ rest) (el := el) (ext := nc * sz) (by
     rw [Array.toList_append]; exact g2.append rn) (by rw [List.all_append, g4, hnall]; rfl) (by rw [List.length_append, hlen, hfl, ← Nat.add_mul]; exact Nat.mul_le_mul_right _ h1) (by rw [h2]; exact Nat.le_refl _) (fun i hi => by
    rw [List.length_append, hlen, hfl] at hi
    exact Array.getElem?_append_left (by rw [Array.size_append, lco, lcn]; exact hi))
   exact ⟨_, { F with own := updO F.own w.heap.size (.ob h.nxt) }, _, _, _, by rw [exec_builtin, harr]; exact val_run h3, .inl rfl, kx.trans x1, rfl, rfl, m1, .v _ _ (.slo _ 0 _ _ ⟨w.heap.size, 0, nc * sz⟩ nc (by simp [updE, H.kill]) (by simp) h1)⟩
end
end Go.VM
end
section
/- The machine of values: a row that is changed no more becomes a list. -/
set_option linter.unusedVariables false
set_option linter.unusedSimpArgs false
namespace Go.VM
open Go.RowKit
variable {P : Program}
theorem MR.freeze {E : Env} {F : Fx} {h : H} {w0 w : World} (m : MR E F h w0 w) {b : Nat} {op : Bool} {cs : List V} {p : Place} (hb : h.ob b = some (.cells op cs)) (hp : E.ob b = some p) (hg : glim ≤ b) :
  ∃ E2 F2, E.le E2 ∧ (∀ k, E2.ob k = E.ob k) ∧ F2.loc = F.loc ∧ F2.prot = F.prot ∧ FZ E2 p.blk p.off cs ∧ MR E2 F2 (h.kill b) w0 w := by
 obtain ⟨hown, hw0⟩ := m.oOb b _ p hg hb hp
 have hlt := m.lt hb hp
 obtain ⟨c, el, lo, hi, h1, h2, h3, h4, h5⟩ : CellsR E cs p w := m.obj b _ p hb hp
 let E2 : Env := { E with fz := fun B i => if B = p.blk ∧ p.off ≤ i ∧ i < p.off + cs.length then c[i]? else E.fz B i }
 have hno : ∀ i v, E.fz p.blk i = some v → False := fun i v hf => by
  rcases m.oFz _ _ _ hf hw0 with g | ⟨b', g⟩ | ⟨k, g, _⟩ <;> rw [hown] at g <;> cases g
 have hle : E.le E2 := ⟨fun _ _ h => h, fun B i v hf => by
  show (if _ then _ else _) = _
  rw [if_neg]
  ·exact hf
  ·rintro ⟨rfl, _⟩; exact hno i v hf, fun _ _ _ h => h⟩
 have hne : ∀ B, F.own B ≠ .ob b → updO F.own p.blk .fz B = F.own B := by
  intro B hB
  unfold updO
  rw [if_neg]
  rintro rfl; exact hB hown
 have hob : ∀ k o', (h.kill b).ob k = some o' → k ≠ b ∧ h.ob k = some o' := by
  intro k o' hk
  simp only [H.kill] at hk
  split at hk
  ·cases hk
  ·rename_i e; exact ⟨e, hk⟩
 refine ⟨E2, { F with own := updO F.own p.blk .fz }, hle, fun _ => rfl, rfl, rfl, FZ.of_get fun i v hv => ?_, ⟨m.below, fun k hk => ?_, m.glo, fun k o' hk ho => m.glb k o' hk (hob k o' ho).2, m.gbl, fun B hB => ?_, fun k o' q hk hq => (m.obj k o' q (hob k o' hk).2 hq).mono hle, fun k o' q hk' hk hq => ?_, fun B i v hf => ?_, fun B i v hf hB => ?_, fun k n q hk hq => ?_, fun k n n' hk hn => m.tokn k n n' (hob k _ hk).2 hn, fun k n hk => m.toko k n (hob k _ hk).2, fun d q hq => ?_, fun B x hx => ?_⟩⟩
 ·obtain ⟨q1, v', q2, q3⟩ := h5 i v hv
  have hi' : i < cs.length := (List.getElem?_eq_some_iff.1 hv).1
  refine ⟨q1, v', ?_, q3.mono hle⟩
  show (if _ then _ else _) = _
  rw [if_pos ⟨rfl, by omega, by omega⟩]; exact q2
 ·obtain ⟨a1, a2, a3⟩ := m.fresh k hk
  refine ⟨a1, ?_, a3⟩
  simp only [H.kill]; split <;> first | rfl | exact a2
 ·by_cases e : B = p.blk
  ·subst e; exact hlt
  ·have hB : updO F.own p.blk .fz B ≠ .no := hB
   unfold updO at hB; rw [if_neg e] at hB; exact m.lto B hB
 ·obtain ⟨e, h2⟩ := hob k o' hk
  obtain ⟨a1, a2⟩ := m.oOb k o' q hk' h2 hq
  exact ⟨(hne _ (by rw [a1]; intro z; cases z; exact e rfl)).trans a1, a2⟩
 ·have hf : (if B = p.blk ∧ p.off ≤ i ∧ i < p.off + cs.length then c[i]? else E.fz B i) = some v := hf
  split at hf
  ·rename_i e; rw [e.1]; exact ⟨c, el, _, h1, hf⟩
  ·exact m.fz B i v hf
 ·have hf : (if B = p.blk ∧ p.off ≤ i ∧ i < p.off + cs.length then c[i]? else E.fz B i) = some v := hf
  split at hf
  ·rename_i e
   exact .inl (by show updO F.own p.blk .fz B = _; unfold updO; rw [if_pos e.1])
  ·show updO F.own p.blk .fz B = .fz ∨ (∃ b', updO F.own p.blk .fz B = .tk b') ∨ ∃ k', updO F.own p.blk .fz B = .pr (some k') ∧ i < k'
   rw [hne]
   ·exact m.oFz B i v hf hB
   ·rcases m.oFz B i v hf hB with g | ⟨b', g⟩ | ⟨k', g, _⟩ <;> rw [g] <;> simp
 ·obtain ⟨_, h2⟩ := hob k _ hk
  obtain ⟨a1, a2, a3, a4⟩ := m.tok k n q h2 hq
  refine ⟨(hne _ (by rw [a1]; simp)).trans a1, a2, a3, fun i hi => ?_⟩
  show (if _ then _ else _) = _
  rw [if_neg]
  ·exact a4 i hi
  ·rintro ⟨e, _⟩; rw [e, hown] at a1; cases a1
 ·obtain ⟨a1, a2, cs', a3, a4⟩ := m.loc d q hq
  exact ⟨(hne _ (by rw [a1]; simp)).trans a1, a2, cs', a3, a4.mono hle⟩
 ·obtain ⟨a1, a2⟩ := m.prot B x hx
  exact ⟨a1, (hne _ (by rw [a2]; simp)).trans a2⟩
end Go.VM
end
section
/- The machine of values: listed memory whose last object is a row of a number that is not known. -/
set_option linter.unusedVariables false
set_option linter.unusedSimpArgs false
namespace Go.VM
open Go.RowKit
variable {P : Program}
def keysLt (p : OL) (N : Nat) : Prop := ∀ e ∈ p, e.1 < N
theorem keysLt.mono {p : OL} {N M : Nat} (h : keysLt p N) (k : N ≤ M) : keysLt p M := fun e he => Nat.lt_of_lt_of_le (h e he) k
theorem og_app : ∀ (p r : OL) (k : Nat), og (p ++ r) k = match og p k with | some o => some o | none => og r k
 | [], r, k => rfl
 | (j, o) :: p, r, k => by
  rw [List.cons_append, og_cons, og_cons, og_app p r k]
  split <;> rfl
theorem og_hi {p : OL} {N : Nat} (h : keysLt p N) {k : Nat} (hk : N ≤ k) : og p k = none := by
 induction p with
 | nil => rfl
 | cons e p ih =>
  obtain ⟨j, o⟩ := e
  have : j < N := h (j, o) (by simp)
  rw [og_cons, if_neg (by omega)]
  exact ih fun e he => h e (by simp [he])
theorem og_one (N : Nat) (o : Obj) (k : Nat) : og [(N, o)] k = if k = N then some o else none := by rw [og_cons]; rfl
theorem rowNew {p : OL} {nx : Nat} {lc : LM} (o : Obj) (h : keysLt p nx) : H.new ⟨nx, og (p ++ []), lc⟩ o = ⟨nx + 1, og (p ++ [(nx, o)]), lc⟩ := by
 simp only [H.new]
 congr 1
 funext k
 rw [og_app, og_app, og_one]
 by_cases e : k = nx
 ·subst e
  rw [if_pos rfl, if_pos rfl, og_hi h (Nat.le_refl _)]
 ·rw [if_neg e, if_neg e]; rfl
theorem rowKill {p : OL} {nx N : Nat} {lc : LM} (o : Obj) (h : keysLt p N) : H.kill ⟨nx, og (p ++ [(N, o)]), lc⟩ N = ⟨nx, og (p ++ []), lc⟩ := by
 simp only [H.kill]
 congr 1
 funext k
 rw [og_app, og_app, og_one]
 by_cases e : k = N
 ·subst e
  rw [if_pos rfl, og_hi h (Nat.le_refl _)]; rfl
 ·rw [if_neg e, if_neg e]; rfl
theorem rowAt {p : OL} {N : Nat} (o : Obj) (h : keysLt p N) : og (p ++ [(N, o)]) N = some o := by
 rw [og_app, og_hi h (Nat.le_refl _), og_one, if_pos rfl]
theorem rowSet : ∀ {p : OL} {N : Nat} (x o : Obj) (h : keysLt p N), osetO (p ++ [(N, x)]) N o = some (p ++ [(N, o)])
 | [], N, x, o, _ => by simp only [List.nil_append, osetO, Nat.beq_refl]
 | (j, y) :: p, N, x, o, h => by
  have hj : j < N := h (j, y) (by simp)
  have e : Nat.beq j N = false := by
   cases hb : Nat.beq j N with
   | false => rfl
   | true => exact absurd (Nat.eq_of_beq_eq_true hb) (by omega)
  have ih := rowSet (p := p) x o (fun e he => h e (List.mem_cons_of_mem _ he))
  rw [List.cons_append, osetO, e]
  simp only [ih, List.cons_append]
section
variable {gl : List Nat} {nt : Nat} {tm : TM}
theorem rowApp0 {x y : RX} {sz bytes n2 nx : Nat} {z : List V} {fs : List (List V)} {fl : List V} {c : LC} {lc : LM} {p : OL} (hp : keysLt p nx) (hx : rv gl tm x = some (.lst [] (.ex 0))) (hy : rv gl tm y = some (.lst fs c)) (hz : ∀ e ∈ fs, e.length = sz) (h0 : 0 < fs.length) (hlim : bytes * fs.length ≤ lim) (hn2 : fs.length = n2) (hfl : fs.flatten = fl) :
  DoesR P gl nt tm ⟨nx, og (p ++ []), lc⟩ (some (.app x y sz bytes z)) (.v (.sl nx 0 n2 (.op sz))) ⟨nx + 1, og (p ++ [(nx, .cells true fl)]), lc⟩ := by
 subst hn2; subst hfl
 intro o hro
 refine ⟨?_, nd_of hro rfl⟩
 have := app_own0 (P := P) (gl := gl) (nt := nt) (tm := tm) (h := ⟨nx, og (p ++ []), lc⟩) hro hx (.lst fs c hy hz) h0 hlim
 rw [rowNew _ hp] at this
 exact this
theorem rowApp {x y : RX} {sz bytes n n2 N nx : Nat} {opn : Bool} {z cs : List V} {fs : List (List V)} {fl : List V} {c : LC} {lc : LM} {p : OL} (hp : keysLt p N) (hg : glim ≤ N) (hnx : N < nx) (hx : rv gl tm x = some (.sl N 0 n (.op sz))) (hlen : cs.length = n * sz) (hn0 : 0 < n) (hy : rv gl tm y = some (.lst fs c)) (hz : ∀ e ∈ fs, e.length = sz) (h0 : 0 < fs.length) (hlim : bytes * (n + fs.length) ≤ lim) (hn2 : n + fs.length = n2) (hfl : cs ++ fs.flatten = fl) :
  DoesR P gl nt tm ⟨nx, og (p ++ [(N, .cells opn cs)]), lc⟩ (some (.app x y sz bytes z)) (.v (.sl nx 0 n2 (.op sz))) ⟨nx + 1, og (p ++ [(nx, .cells true fl)]), lc⟩ := by
 subst hn2; subst hfl
 intro o hro
 refine ⟨?_, nd_of hro rfl⟩
 have := app_own (P := P) (gl := gl) (nt := nt) (tm := tm) (h := ⟨nx, og (p ++ [(N, .cells opn cs)]), lc⟩) hro hx (rowAt _ hp) hg hlen hn0 (.lst fs c hy hz) h0 hlim
 rw [rowKill _ hp, rowNew _ (hp.mono (Nat.le_of_lt hnx))] at this
 exact this
theorem rowIa {h : H} {x i : RX} {k : IntKind} {n sz b o len : Nat} {c : Cp} (hx : rv gl tm x = some (.sl b o len c)) (hi : rv gl tm i = some (.int k n)) (hl : n < len) : LightR P gl nt tm h (some (.ia x i sz)) (.v (.ptr b (o + n * sz))) := by
 refine lightX_sound ?_
 simp only [lightX, rl, hx, hi, Option.bind_some, asIdx]
 have : ¬ ((n : Int) < 0) := by omega
 simp [this, hl]
theorem rowLd {x : RX} {v : V} {opn : Bool} {N o nx : Nat} {cs : List V} {lc : LM} {p : OL} (hp : keysLt p N) (hx : rvt gl tm x = some (.v (.ptr N o))) (hc : cs[o]? = some v) :
  LightR P gl nt tm ⟨nx, og (p ++ [(N, .cells opn cs)]), lc⟩ (some (.ld x none)) (.v v) := by
 refine lightX_sound ?_
 simp only [lightX, rl, hx, ldA, rowAt _ hp, partC, hc]
 rfl
theorem rowSt {x y : RX} {v u : V} {opn : Bool} {N o : Nat} {cs cs' : List V} {lc : LM} {p : OL} (hp : keysLt p N) (hN : glim ≤ N) (hx : rvt gl tm x = some (.v (.ptr N o))) (hy : rv gl tm y = some v) (hv : cellO v = some [u]) (ho : o < cs.length) (hcs : cs.set o u = cs') :
  rasC gl tm (p ++ [(N, .cells opn cs)]) lc (.st x y 1) = some (p ++ [(N, .cells opn cs')], lc) := by
 subst hcs
 have hg : Nat.ble glim N = true := Nat.ble_eq.mpr hN
 simp only [rasC, hx, hy, hv, rowAt _ hp, hg, List.length_singleton, Nat.beq_refl, putC_one ho, rowSet _ _ hp]
end
theorem SW.drop {gl : List Nat} {fr : Fr} {tm : TM} {df : List AD} {u : Option AMode} {nx N n : Nat} {p : OL} {lc : LM} (hp : keysLt p N) : SW gl fr (SL.toS ⟨tm, df, u, nx, p ++ [(N, .tok n)], lc⟩) (SL.toS ⟨tm, df, u, nx, p ++ [], lc⟩) := by
 refine ⟨rfl, fun E F w0 w b tmps dfs cs st => ?_⟩
 have e := rowKill (nx := nx) (lc := lc) (.tok n) hp
 have hb : (SL.toS ⟨tm, df, u, nx, p ++ [(N, .tok n)], lc⟩).h.ob N = some (.tok n) := rowAt _ hp
 have x := kill_ext st.mr (.inr (.inl ⟨_, hb⟩))
 have m := st.mr.killed N
 have e' : (SL.toS ⟨tm, df, u, nx, p ++ [(N, .tok n)], lc⟩).h.kill N = (SL.toS ⟨tm, df, u, nx, p ++ [], lc⟩).h := e
 rw [e'] at x m
 exact ⟨E, F, x, rfl, st.mono x rfl m⟩
end Go.VM
end
section
/- The machine of values: within a frame, a row that is changed no more becomes a list. -/
set_option linter.unusedVariables false
set_option linter.unusedSimpArgs false
namespace Go.VM
open Go.RowKit
variable {P : Program}
theorem SW.frz {gl : List Nat} {fr : Fr} {s1 : S} {d N n z : Nat} {op : Bool} {es : List (List V)} (hd : tg s1.tm d = some (.v (.sl N 0 n (.op z)))) (hb : s1.h.ob N = some (.cells op es.flatten)) (hg : glim ≤ N)
  (hz : ∀ e ∈ es, e.length = z) (hn : es.length = n) (h0 : 0 < n) : SW gl fr s1 { s1 with tm := (d, .v (.lst es .unk)) :: s1.tm, h := s1.h.kill N } := by
 refine ⟨rfl, fun E F w0 w b tmps df cs st => ?_⟩
 obtain ⟨v', g1, g2⟩ := st.tr.2 d _ hd
 cases g2 with
 | v _ _ r =>
  cases r with
  | sl0 => omega
  | slo _ _ _ _ p c hE hext hnc =>
   obtain ⟨E2, F2, e1, e2, e3, e4, e5, e6⟩ := st.mr.freeze hb hE hg
   have hf := FZs.of_flat hz e5
   have hlst : AR E2 (.lst es .unk) (.slice (some ⟨p.blk, p.off + 0, none⟩) n c) := by
    cases es with
    | nil => simp at hn; omega
    | cons e es => exact .lst e es .unk p.blk p.off n c z hf (by simpa using hn.symm) hnc trivial
   have x : Ext E s1.h E2 (s1.h.kill N) := ⟨e1, fun k _ => e2 k, Nat.le_refl _, (kill_ext st.mr (.inl ⟨p, hE⟩)).ghost⟩
   have st2 := st.mono x e3 e6
   refine ⟨E2, F2, x, e4, ⟨st2.mr, ⟨st2.tr.1, fun t v hv => ?_⟩, st2.dr, st2.uk, st2.fr, st2.gl⟩⟩
   rw [tg_cons] at hv
   split at hv
   ·rename_i e; subst e; cases hv; exact ⟨_, g1, .v _ _ hlst⟩
   ·exact st2.tr.2 t v hv
theorem SW.frzR {gl : List Nat} {fr : Fr} {tm : TM} {df : List AD} {u : Option AMode} {nx d N n z : Nat} {op : Bool} {es : List (List V)} {fl : List V} {p : OL} {lc : LM} (hp : keysLt p N) (hd : tg tm d = some (.v (.sl N 0 n (.op z)))) (hg : glim ≤ N)
  (hfl : fl = es.flatten) (hz : ∀ e ∈ es, e.length = z) (hn : es.length = n) (h0 : 0 < n) :
  SW gl fr (SL.toS ⟨tm, df, u, nx, p ++ [(N, .cells op fl)], lc⟩) (SL.toS ⟨(d, .v (.lst es .unk)) :: tm, df, u, nx, p ++ [], lc⟩) := by
 subst hfl
 have hb : (SL.toS ⟨tm, df, u, nx, p ++ [(N, .cells op es.flatten)], lc⟩).h.ob N = some (.cells op es.flatten) := rowAt _ hp
 have := SW.frz (gl := gl) (fr := fr) (d := d) (n := n) (z := z) hd hb hg hz hn h0
 have e : (SL.toS ⟨tm, df, u, nx, p ++ [(N, .cells op es.flatten)], lc⟩).h.kill N = (SL.toS ⟨tm, df, u, nx, p ++ [], lc⟩).h := rowKill (nx := nx) (lc := lc) (.cells op es.flatten) hp
 rw [e] at this
 exact this
end Go.VM
end
