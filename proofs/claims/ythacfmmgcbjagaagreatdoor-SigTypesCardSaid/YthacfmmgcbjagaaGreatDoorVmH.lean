/- laid for this seat: VmClaim VmAm -/
import Derived.Test.YthacfmmgcbjagaaGreatDoorVmG
import Derived.ChangeStays
import Derived.ChangeOld
import Derived.RowKit
import Derived.Test.YthacfmmgcbjagaaGreatDoorAmE
section
/- The machine of values: from a call that says yes, over any memory, to a row: how arguments are read, and shut. -/
set_option linter.unusedVariables false
set_option linter.unusedSimpArgs false
namespace Go.VM
open Go.RowKit
def fzOf (w : World) (B i : Nat) : Option Value :=
 match w.heap[B]? with
 | some (.cells c _ _) => c[i]?
 | _ => none
def E0 (w : World) : Env := ⟨fun _ => none, fzOf w, fun _ _ => none⟩
def F0 : Fx := ⟨noL, fun _ => none, fun _ => .no⟩
def h0 : H := ⟨glim, fun _ => none, []⟩
theorem fzOf_spec {w : World} {B i : Nat} {v : Value} (h : fzOf w B i = some v) : ∃ c el q, w.heap[B]? = some (.cells c el q) ∧ c[i]? = some v := by
 unfold fzOf at h
 split at h
 ·rename_i c el q hc; exact ⟨c, el, q, hc, h⟩
 ·cases h
def flatB (P : Program) (S : List Nat) : Bool := S.all fun t => match P.underlying t with
 | some .bool | some .string | some (.int _) => true
 | some (.slice e) => S.contains e && Nat.blt 0 (P.cellsOf e)
 | some (.struct fs) => fs.toList.all (fun f => S.contains f.type) && decide (P.cellsOf t = (fs.toList.map fun f => P.cellsOf f.type).sum) &&
   (List.range fs.size).all fun j => match fs[j]? with
    | some f => decide (f.offset = ((fs.toList.take j).map fun f => P.cellsOf f.type).sum)
    | none => true
 | _ => false
theorem flat_get {P : Program} {S : List Nat} (h : flatB P S = true) {t : Nat} (ht : t ∈ S) : (match P.underlying t with
 | some .bool | some .string | some (.int _) => true
 | some (.slice e) => S.contains e && Nat.blt 0 (P.cellsOf e)
 | some (.struct fs) => fs.toList.all (fun f => S.contains f.type) && decide (P.cellsOf t = (fs.toList.map fun f => P.cellsOf f.type).sum) &&
   (List.range fs.size).all fun j => match fs[j]? with
    | some f => decide (f.offset = ((fs.toList.take j).map fun f => P.cellsOf f.type).sum)
    | none => true
 | _ => false) = true := List.all_eq_true.1 h t ht
theorem flat_slice {P : Program} {S : List Nat} (h : flatB P S = true) {t e : Nat} (ht : t ∈ S) (hu : P.underlying t = some (.slice e)) : e ∈ S ∧ 0 < P.cellsOf e := by
 have := flat_get h ht
 rw [hu] at this
 simp only [Bool.and_eq_true, List.contains_iff_mem] at this
 exact ⟨this.1, by simpa [Nat.blt_eq] using this.2⟩
theorem flat_struct {P : Program} {S : List Nat} (h : flatB P S = true) {t : Nat} {fs : Array Field} (ht : t ∈ S) (hu : P.underlying t = some (.struct fs)) :
  (∀ f ∈ fs.toList, f.type ∈ S) ∧ P.cellsOf t = (fs.toList.map fun f => P.cellsOf f.type).sum ∧ ∀ (j : Nat) f, fs.toList[j]? = some f → f.offset = ((fs.toList.take j).map fun f => P.cellsOf f.type).sum := by
 have := flat_get h ht
 rw [hu] at this
 simp only [Bool.and_eq_true, decide_eq_true_eq] at this
 obtain ⟨⟨a, b⟩, c⟩ := this
 refine ⟨fun f hf => by simpa [List.contains_iff_mem] using List.all_eq_true.1 a f hf, b, fun j f hj => ?_⟩
 have hlt : j < fs.size := by have := (List.getElem?_eq_some_iff.1 hj).1; simpa using this
 have := List.all_eq_true.1 c j (by simpa using hlt)
 have e : fs[j]? = some f := by simpa using hj
 rw [e] at this
 simpa using this
theorem flat_kids {P : Program} {S : List Nat} (h : flatB P S = true) : Kids P (· ∈ S) where
 pointer ht hu := by have := flat_get h ht; rw [hu] at this; cases this
 slice ht hu := (flat_slice h ht hu).1
 array ht hu := by have := flat_get h ht; rw [hu] at this; cases this
 struct ht hu := flat_struct h ht hu
 map ht hu := by have := flat_get h ht; rw [hu] at this; cases this
section
variable {H : Type}
mutual
def dV : DataW H → List V
 | .lit (.bool b) => [.bool b]
 | .lit (.int k n) => [.int k n]
 | .lit (.string s) => [.str (s.map UInt8.toNat)]
 | .nil => [.lst [] .unk]
 | .slice es _ => [.lst (dVs es) .unk]
 | .agg ps => dVf ps
 | _ => []
def dVs : List (DataW H) → List (List V)
 | [] => []
 | x :: r => dV x :: dVs r
def dVf : List (DataW H) → List V
 | [] => []
 | x :: r => dV x ++ dVf r
end
theorem dVs_map : ∀ l : List (DataW H), dVs l = l.map dV
 | [] => rfl
 | x :: r => by rw [dVs, dVs_map r]; rfl
theorem dVf_map : ∀ l : List (DataW H), dVf l = (l.map dV).flatten
 | [] => rfl
 | x :: r => by rw [dVf, dVf_map r]; rfl
def TyD (P : Program) : Nat → TypeId → DataW H → Prop
 | 0, _, _ => False
 | n + 1, t, d => match P.underlying t with
  | some .bool => ∃ b, d = .lit (.bool b)
  | some (.int k) => ∃ m, d = .lit (.int k m) ∧ (Lit.int k m).wf = true
  | some .string => ∃ s, d = .lit (.string s) ∧ s.length ≤ maxLen
  | some (.slice e) => d = .nil ∨ ∃ es sp, d = .slice es sp ∧ es.length ≤ maxLen ∧ ∀ x ∈ es, TyD P n e x
  | some (.struct fs) => ∃ xs, d = .agg xs ∧ All₂ (fun (f : Field) x => TyD P n f.type x) fs.toList xs
  | _ => False
end
theorem ars_parts {E : Env} : ∀ (zs : List Nat) (vs : List (List V)) (cs : List Value), vs.length = zs.length → cs.length = zs.sum →
  (∀ (i : Nat) (v : List V) (z : Nat), vs[i]? = some v → zs[i]? = some z → ARs E v ((cs.drop (zs.take i).sum).take z)) → ARs E vs.flatten cs
 | [], vs, cs, h1, h2, _ => by
  have : vs = [] := List.eq_nil_of_length_eq_zero h1
  subst this
  have : cs = [] := List.eq_nil_of_length_eq_zero h2
  subst this
  exact .nil
 | z :: zs, [], cs, h1, _, _ => by simp at h1
 | z :: zs, v :: vs, cs, h1, h2, h3 => by
  have a := h3 0 v z rfl rfl
  simp only [List.take_zero, List.sum_nil, List.drop_zero] at a
  have b := ars_parts zs vs (cs.drop z) (by simpa using h1) (by simp at h2 ⊢; omega) (fun i u y hu hy => by
   have := h3 (i + 1) u y (by simpa using hu) (by simpa using hy)
   rwa [List.take_succ_cons, List.sum_cons, ← List.drop_drop] at this)
  rw [List.flatten_cons, ← List.take_append_drop z cs]
  exact a.append b
theorem mapM_some {α β : Type} {f : α → Option β} : ∀ {l : List α} {r : List β}, l.mapM f = some r → r.length = l.length ∧ ∀ (i : Nat) (x : α), l[i]? = some x → f x = r[i]?
 | [], r, h => by
  simp only [List.mapM_nil] at h
  cases h
  exact ⟨rfl, fun i x hx => by simp at hx⟩
 | a :: l, r, h => by
  rw [List.mapM_cons] at h
  cases hf : f a with
  | none => rw [hf] at h; cases h
  | some y =>
   cases hl : l.mapM f with
   | none => rw [hf, hl] at h; cases h
   | some ys =>
    rw [hf, hl] at h
    cases h
    obtain ⟨a1, a2⟩ := mapM_some hl
    refine ⟨by simp [a1], fun i x hx => ?_⟩
    cases i with
    | zero => simp at hx; subst hx; simpa using hf
    | succ i => simpa using a2 i x (by simpa using hx)
theorem cell_fz {w : World} {a : Addr} {v : Value} (h : w.cell? a = some v) : a.spot = none ∧ fzOf w a.block a.off = some v := by
 unfold World.cell? at h
 unfold fzOf
 split at h
 ·rename_i c el q hc
  rw [hc]
  cases hs : a.spot with
  | none => rw [hs] at h; exact ⟨rfl, by simpa using h⟩
  | some s => rw [hs] at h; simp at h
 ·cases h
section
variable {H : Type} {enc : TypeId × Value → H} {P : Program} {w : World} {sp : Nat → Bool} {held : Bool} {S : List Nat}
theorem dVs_cells {ps : List (List V)} (h : ∀ p ∈ ps, p.all V.isCell = true) : ps.flatten.all V.isCell = true := by
 rw [List.all_eq_true]
 intro v hv
 obtain ⟨p, h1, h2⟩ := List.mem_flatten.1 hv
 exact List.all_eq_true.1 (h p h1) v h2
theorem all2_of {α β : Type} {R : α → β → Prop} : ∀ {l : List α} {m : List β}, m.length = l.length → (∀ (i : Nat) a, l[i]? = some a → ∃ b, m[i]? = some b ∧ R a b) → All₂ R l m
 | [], m, h, _ => by
  have : m = [] := List.eq_nil_of_length_eq_zero h
  subst this; exact .nil
 | a :: l, [], h, _ => by simp at h
 | a :: l, b :: m, h, k => by
  obtain ⟨b', h1, h2⟩ := k 0 a rfl
  simp at h1; subst h1
  exact .cons h2 (all2_of (by simpa using h) fun i x hx => by simpa using k (i + 1) x (by simpa using hx))
theorem read_ok (hS : flatB P S = true) : ∀ (n : Nat) (t : TypeId) (cs : List Value) (x : DataW H × List MemPlace), t ∈ S → DataW.trod enc P w 0 sp held n t cs = some x →
  ARs (E0 w) (dV x.1) cs ∧ (dV x.1).all V.isCell = true ∧ TyD P n t x.1 := by
 intro n
 induction n with
 | zero => intro t cs x _ h; simp [DataW.trod] at h
 | succ n ih =>
  intro t cs x ht h
  have hf := flat_get hS ht
  cases hu : P.underlying t with
  | none => rw [hu] at hf; cases hf
  | some d =>
   cases d with
   | bool =>
    obtain ⟨b, rfl, rfl⟩ := DataW.trod_bool hu h
    exact ⟨.cons _ _ _ _ (.bool b) .nil, rfl, by simp [TyD, hu]⟩
   | int k =>
    obtain ⟨m, rfl, rfl, hw⟩ := DataW.trod_int hu h
    exact ⟨.cons _ _ _ _ (.int k m) .nil, rfl, by simp [TyD, hu]; exact hw⟩
   | string =>
    obtain ⟨s, rfl, rfl, hl⟩ := DataW.trod_string hu h
    exact ⟨.cons _ _ _ _ (.str _ s rfl) .nil, rfl, by simp [TyD, hu]; exact hl⟩
   | slice e =>
    obtain ⟨he, hz⟩ := flat_slice hS ht hu
    rcases DataW.trod_slice hu h with ⟨rfl, rfl⟩ | ⟨a, len, cap, elems, rest, m, hm, rfl, rfl, _, hlc, hcm, hlen, hel, _⟩
    ·exact ⟨.cons _ _ _ _ (.lst0 .unk none 0 trivial) .nil, rfl, by simp [TyD, hu]⟩
    ·have hm : n = m := by omega
     subst hm
     have key : ∀ (i : Nat) y, elems[i]? = some y → ∃ ci, w.cells? 0 (a.add (i * P.cellsOf e)) (P.cellsOf e) = some ci ∧ DataW.trod enc P w 0 sp held n e ci = some y := by
      intro i y hy
      have hi : i < len := by rw [← hlen]; exact (List.getElem?_eq_some_iff.1 hy).1
      have := hel i hi
      rw [hy] at this
      cases hc : w.cells? 0 (a.add (i * P.cellsOf e)) (P.cellsOf e) with
      | none => rw [hc] at this; cases this
      | some ci => rw [hc] at this; exact ⟨ci, rfl, this⟩
     have cellsAt : ∀ (i : Nat) ci, w.cells? 0 (a.add (i * P.cellsOf e)) (P.cellsOf e) = some ci → ci.length = P.cellsOf e ∧ ∀ j, j < P.cellsOf e → w.cell? ((a.add (i * P.cellsOf e)).add j) = ci[j]? := by
      intro i ci hci
      unfold World.cells? at hci
      rw [if_pos (Nat.zero_le _)] at hci
      obtain ⟨q1, q2⟩ := mapM_some hci
      refine ⟨by simpa using q1, fun j hj => q2 j j ?_⟩
      rw [List.getElem?_range hj]
     have ty : TyD P (n + 1) t (.slice (elems.map (·.1)) (rest.map (·.1))) := by
      simp only [TyD, hu]
      refine .inr ⟨_, _, rfl, by simp; omega, fun x hx => ?_⟩
      obtain ⟨y, hy, rfl⟩ := List.mem_map.1 hx
      obtain ⟨i, hi⟩ := List.mem_iff_getElem?.1 hy
      obtain ⟨ci, _, h2⟩ := key i y hi
      exact (ih e ci y he h2).2.2
     refine ⟨.cons _ _ _ _ ?_ .nil, rfl, ty⟩
     show AR (E0 w) (.lst (dVs (elems.map (·.1))) .unk) _
     rw [dVs_map]
     cases elems with
     | nil =>
      simp at hlen; subst hlen
      exact .lst0 .unk _ cap trivial
     | cons y0 ys =>
      have hspot : a.spot = none := by
       obtain ⟨ci, h1, h2⟩ := key 0 y0 rfl
       obtain ⟨g1, g2⟩ := cellsAt 0 ci h1
       have := g2 0 hz
       rw [List.getElem?_eq_getElem (by omega)] at this
       have := (cell_fz this).1
       simpa [Addr.add] using this
      obtain ⟨blk, off, spot⟩ := a
      simp only at hspot
      subst hspot
      simp only [List.map_cons]
      refine .lst _ _ .unk blk off len cap (P.cellsOf e) ?_ (by simp at hlen; simp; omega) hlc trivial
      have hall : ∀ (i : Nat) c, (((y0 :: ys).map (·.1)).map dV)[i]? = some c → c.length = P.cellsOf e ∧ FZ (E0 w) blk (off + i * P.cellsOf e) c := by
       intro i c hc
       rw [List.map_map, List.getElem?_map] at hc
       cases hy : (y0 :: ys)[i]? with
       | none => rw [hy] at hc; cases hc
       | some y =>
        rw [hy] at hc
        cases hc
        obtain ⟨ci, h1, h2⟩ := key i y hy
        obtain ⟨g1, g2⟩ := cellsAt i ci h1
        obtain ⟨r1, r2, _⟩ := ih e ci y he h2
        refine ⟨r1.length.trans g1, FZ.of_get fun j v hv => ?_⟩
        obtain ⟨v', q1, q2⟩ := r1.get j v hv
        have hj : j < P.cellsOf e := by rw [← g1]; exact (List.getElem?_eq_some_iff.1 q1).1
        have := g2 j hj
        rw [q1, add_zero, add_zero] at this
        exact ⟨List.all_eq_true.1 r2 v (List.mem_of_getElem? hv), v', (cell_fz this).2, q2⟩
      exact FZs.of_get hall
   | struct fs =>
    obtain ⟨f1, f2, f3⟩ := flat_struct hS ht hu
    obtain ⟨xs, m, hm, rfl, hlen, hxs, hfs⟩ := DataW.trod_struct hu h
    have hm : n = m := by omega
    subst hm
    have key : ∀ (i : Nat) f, fs.toList[i]? = some f → ∃ y, xs[i]? = some y ∧ DataW.trod enc P w 0 sp held n f.type ((cs.drop f.offset).take (P.cellsOf f.type)) = some y := by
     intro i f hf
     have hlt : i < fs.size := by have := (List.getElem?_eq_some_iff.1 hf).1; simpa using this
     have := hfs i f (by simpa using hf)
     rw [List.getElem?_eq_getElem (by omega)] at this
     exact ⟨xs[i], List.getElem?_eq_getElem (by omega), this⟩
    have hd : dV (DataW.agg (xs.map (·.1)) : DataW H) = ((xs.map (·.1)).map dV).flatten := dVf_map _
    show ARs _ (dV (DataW.agg (xs.map (·.1)))) _ ∧ List.all (dV (DataW.agg (xs.map (·.1)))) _ = true ∧ TyD P (n + 1) t (DataW.agg (xs.map (·.1)))
    rw [hd]
    refine ⟨ars_parts (fs.toList.map fun f => P.cellsOf f.type) _ _ (by simp [hxs]) (by rw [hlen, f2]) fun i v z hv hz => ?_, dVs_cells fun p hp => ?_, ?_⟩
    ·rw [List.getElem?_map] at hz
     cases hf : fs.toList[i]? with
     | none => rw [hf] at hz; cases hz
     | some f =>
      rw [hf] at hz; cases hz
      obtain ⟨y, h1, h2⟩ := key i f hf
      rw [List.map_map, List.getElem?_map, h1] at hv
      cases hv
      have := (ih f.type _ y (f1 f (List.mem_of_getElem? hf)) h2).1
      rwa [f3 i f hf, List.map_take] at this
    ·rw [List.map_map] at hp
     obtain ⟨y, hy, rfl⟩ := List.mem_map.1 hp
     obtain ⟨i, hi⟩ := List.mem_iff_getElem?.1 hy
     have hlt : i < fs.size := by rw [← hxs]; exact (List.getElem?_eq_some_iff.1 hi).1
     obtain ⟨y', h1, h2⟩ := key i fs[i] (by simp [hlt])
     rw [hi] at h1; cases h1
     exact (ih _ _ y (f1 _ (by simp)) h2).2.1
    ·simp only [TyD, hu]
     refine ⟨_, rfl, all2_of (by simp [hxs]) fun i f hf => ?_⟩
     obtain ⟨y, h1, h2⟩ := key i f hf
     exact ⟨y.1, by rw [List.getElem?_map, h1]; rfl, (ih f.type _ y (f1 f (List.mem_of_getElem? hf)) h2).2.2⟩
   | _ => rw [hu] at hf; cases hf
end
section
open Go.WideShapes Go.ChangeShapes
variable {H : Type} {enc : TypeId × Value → H} {P : Program} {W W' : World} {S : List Nat} {t : TypeId} {v : Value} {d : DataW H} {base : Nat} {r : Reach} {ps : List MemPlace}
theorem arg_struct {fs : Array Field} {x : List V} (hu : P.underlying t = some (.struct fs)) (hval : Value.okWide P W r base t v) (hr : ARs (E0 W) (dV d) v.cells.toList) (hd : dV d = x) : AR (E0 W) (.agg x) v := by
 obtain ⟨cs, rfl, _⟩ := okWide_struct hu hval
 rw [hd] at hr
 exact .agg _ _ hr
theorem stays_all (hS : flatB P S = true) (hb : Below W.heap.size W W') : ∀ {ts : List TypeId} {vs : List Value} {ds : List (DataW H)} {ps : List MemPlace}, (∀ t ∈ ts, t ∈ S) → (∀ p ∈ ps, p.block < W.heap.size) →
  DataW.TrodAll enc P W 0 (fun _ => true) true ts vs ds ps → DataW.TrodAll enc P W' 0 (fun b => decide (b < W.heap.size)) true ts vs ds ps
 | [], [], [], ps, _, _, h => h
 | t :: ts, v :: vs, d :: ds, ps, ht, hp, ⟨p, q, ⟨n, hn⟩, h2, e⟩ => by
  subst e
  refine ⟨p, q, ⟨n, ?_⟩, stays_all hS hb (fun t h => ht t (by simp [h])) (fun x h => hp x (by simp [h])) h2, rfl⟩
  exact DataW.trod_stays (flat_kids hS) (fun h1 h2 => (flat_slice hS h1 h2).2) (fun h => by cases h) (ht t (by simp)) hn (fun x hx => hb.same (hp x (by simp [show x ∈ p from hx]))) (fun x hx => by simpa using hp x (by simp [show x ∈ p from hx]))
 | [], [], _ :: _, _, _, _, h => h.elim
 | [], _ :: _, _, _, _, _, h => h.elim
 | _ :: _, [], _, _, _, _, h => h.elim
 | _ :: _, _ :: _, [], _, _, _, h => h.elim
theorem stays_of (hS : flatB P S = true) (hb : Below W.heap.size W W') {ts : List TypeId} {vs : List Value} {ds gs : List (DataW H)} {p q : List MemPlace} {apart : Bool} {vars : List String} (hT : ∀ t ∈ ts, t ∈ S)
  (hW : DataW.Whole enc P ts vars apart W vs ds gs (p ++ q)) (h : DataW.TrodAll enc P W 0 (fun _ => true) true ts vs ds p) : DataW.TrodAll enc P W' 0 (fun b => decide (b < W.heap.size)) true ts vs ds p :=
 stays_all hS hb hT (fun x hx => hW.lt x (by simp [hx])) h
end
section
variable {H : Type} {P : Program} {n : Nat} {t : TypeId} {d : DataW H}
theorem TyD.int {k : IntKind} (h : TyD P n t d) (hu : P.underlying t = some (.int k)) : ∃ m, d = .lit (.int k m) ∧ (Lit.int k m).wf = true := by
 cases n with
 | zero => exact h.elim
 | succ n => simp only [TyD, hu] at h; exact h
theorem TyD.bool (h : TyD P n t d) (hu : P.underlying t = some .bool) : ∃ b, d = .lit (.bool b) := by
 cases n with
 | zero => exact h.elim
 | succ n => simp only [TyD, hu] at h; exact h
theorem TyD.str (h : TyD P n t d) (hu : P.underlying t = some .string) : ∃ s, d = .lit (.string s) ∧ s.length ≤ maxLen := by
 cases n with
 | zero => exact h.elim
 | succ n => simp only [TyD, hu] at h; exact h
theorem TyD.sl {e : TypeId} (h : TyD P n t d) (hu : P.underlying t = some (.slice e)) : d = .nil ∨ ∃ es sp m, n = m + 1 ∧ d = .slice es sp ∧ es.length ≤ maxLen ∧ ∀ x ∈ es, TyD P m e x := by
 cases n with
 | zero => exact h.elim
 | succ n =>
  simp only [TyD, hu] at h
  rcases h with h | ⟨es, sp, a, b, c⟩
  ·exact .inl h
  ·exact .inr ⟨es, sp, n, rfl, a, b, c⟩
theorem TyD.st {fs : Array Field} (h : TyD P n t d) (hu : P.underlying t = some (.struct fs)) : ∃ xs m, n = m + 1 ∧ d = .agg xs ∧ All₂ (fun (f : Field) x => TyD P m f.type x) fs.toList xs := by
 cases n with
 | zero => exact h.elim
 | succ n =>
  simp only [TyD, hu] at h
  obtain ⟨xs, a, b⟩ := h
  exact ⟨xs, n, rfl, a, b⟩
theorem decode_list {α : Type} {enc : α → List V} {Q : α → Prop} {m : Nat} {e : TypeId} (hd : ∀ x : DataW H, TyD P m e x → ∃ a, dV x = enc a ∧ Q a) : ∀ {es : List (DataW H)}, (∀ x ∈ es, TyD P m e x) → ∃ l : List α, es.map dV = l.map enc ∧ l.length = es.length ∧ ∀ a ∈ l, Q a
 | [], _ => ⟨[], rfl, rfl, fun a h => by cases h⟩
 | x :: es, h => by
  obtain ⟨a, h1, h2⟩ := hd x (h x (by simp))
  obtain ⟨l, h3, h4, h5⟩ := decode_list hd (es := es) fun y hy => h y (by simp [hy])
  exact ⟨a :: l, by simp [h1, h3], by simp [h4], fun b hb => by
   rcases List.mem_cons.1 hb with rfl | hb
   ·exact h2
   ·exact h5 b hb⟩
theorem decode_slice {α : Type} {enc : α → List V} {Q : α → Prop} {e : TypeId} (hd : ∀ (m : Nat) (x : DataW H), TyD P m e x → ∃ a, dV x = enc a ∧ Q a) (h : TyD P n t d) (hu : P.underlying t = some (.slice e)) : ∃ l : List α, dV d = [.lst (l.map enc) .unk] ∧ l.length ≤ maxLen ∧ ∀ a ∈ l, Q a := by
 rcases h.sl hu with rfl | ⟨es, sp, m, rfl, rfl, h1, h2⟩
 ·exact ⟨[], rfl, by simp, fun a h => by cases h⟩
 ·obtain ⟨l, h3, h4, h5⟩ := decode_list (hd m) h2
  exact ⟨l, by rw [dV, dVs_map, h3], by omega, h5⟩
end
end Go.VM
end
section
/- The machine of values, and the abstract machine: a closed call that was run there is a call here. -/
set_option linter.unusedVariables false
set_option linter.unusedSimpArgs false
namespace Go.VM
open Go.RowKit
theorem MR.grow {E : Env} {F : Fx} {h : H} {w0 w w' : World} (m : MR E F h w0 w) (b : Below w.heap.size w w') : MR E F h w0 w' := by
 have hle : w0.heap.size ≤ w.heap.size := m.below.size
 have same : ∀ B x, w.heap[B]? = some x → w'.heap[B]? = w.heap[B]? := fun B x hx => b.block B (Array.getElem?_eq_some_iff.1 hx).1
 have obj : ∀ o p, ObjR E o p w → ObjR E o p w' := fun o p r => r.world (b.block _ r.lt)
 refine ⟨m.below.trans (b.mono hle), m.fresh, m.glo, m.glb, m.gbl, fun B hB => Nat.lt_of_lt_of_le (m.lto B hB) b.size, fun k o p hk hp => obj o p (m.obj k o p hk hp), m.oOb, fun B i v hv => ?_, m.oFz, fun k n p hk hp => ?_, m.tokn, m.toko, fun d p hp => ?_, fun B x hx => ?_⟩
 ·obtain ⟨c, el, q, h1, h2⟩ := m.fz B i v hv
  exact ⟨c, el, q, by rw [same B _ h1]; exact h1, h2⟩
 ·obtain ⟨a1, a2, a3, a4⟩ := m.tok k n p hk hp
  obtain ⟨c, el, lo, hi, h1, h2⟩ := a3
  exact ⟨a1, a2, ⟨c, el, lo, hi, by rw [same _ _ h1]; exact h1, h2⟩, a4⟩
 ·obtain ⟨a1, a2, cs, a3, a4⟩ := m.loc d p hp
  refine ⟨a1, a2, cs, a3, ?_⟩
  obtain ⟨c, el, lo, hi, h1, h2⟩ := a4
  exact ⟨c, el, lo, hi, by rw [same _ _ h1]; exact h1, h2⟩
 ·obtain ⟨a1, a2⟩ := m.prot B x hx
  exact ⟨by rw [same _ _ a1]; exact a1, a2⟩
theorem am_tab {E : Env} {F : Fx} {h : H} {w0 w : World} {g : Nat} {k : IntKind} {zs : List Int} {op : Bool} (m : MR E F h w0 w) (hg : g < AM.glim) (hgl : GL E [g]) (hob : h.ob g = some (.cells op (zs.map fun z => .int k z))) :
  ∃ n, AM.MR (AM.eTab g n) (AM.hTab g k zs) w w := by
 obtain ⟨p, hp, hb, ho⟩ := hgl g (by simp)
 obtain ⟨c, el, lo, hi, h1, h2, h3, h4, h5⟩ := m.obj g _ p hob hp
 rw [hb] at h1
 rw [ho] at h3 h5
 have hE : ∀ b q, AM.eTab g p.ext b = some q → b = g ∧ q = ⟨g, 0, p.ext⟩ := by
  intro b q h
  unfold AM.eTab at h
  split at h
  ·rename_i e; cases h; exact ⟨e, rfl⟩
  ·cases h
 have hlt : g < w.heap.size := (Array.getElem?_eq_some_iff.1 h1).1
 refine ⟨p.ext, Below.refl _ _, fun b hb' => ?_, Nat.le_refl _, (by show AM.glim ≤ AM.lim; unfold AM.glim AM.lim; decide), fun b o q ho hq => ?_, fun b o _ ho => ?_, fun b q hb' hq => ?_, fun b q hq => ?_, fun b b' o o' q q' hne ho ho' hq hq' => ?_⟩
 ·have hne : b ≠ g := by rintro rfl; exact absurd hb' (Nat.not_le.2 hg)
  exact ⟨by unfold AM.eTab; rw [if_neg hne], by rw [AM.hTab_get hg, if_neg hne]⟩
 ·obtain ⟨rfl, rfl⟩ := hE b q hq
  rw [AM.hTab_get hg, if_pos rfl] at ho
  cases ho
  refine ⟨c, el, lo, hi, h1, h2, h3, by simpa using h4, fun i v hv => ?_⟩
  rw [List.getElem?_map] at hv
  cases hz : zs[i]? with
  | none => rw [hz] at hv; cases hv
  | some z =>
   rw [hz] at hv
   cases hv
   obtain ⟨_, v', q1, q2⟩ := h5 i (.int k z) (by rw [List.getElem?_map, hz]; rfl)
   cases q2
   exact ⟨rfl, .int k z, q1, .int k z⟩
 ·rw [AM.hTab_get hg] at ho
  split at ho
  ·cases ho; exact ⟨_, _, rfl⟩
  ·cases ho
 ·obtain ⟨rfl, _⟩ := hE b q hq; exact absurd hb' (Nat.not_le.2 hg)
 ·obtain ⟨rfl, rfl⟩ := hE b q hq; exact hlt
 ·obtain ⟨rfl, rfl⟩ := hE b q hq
  obtain ⟨rfl, rfl⟩ := hE b' q' hq'
  exact absurd rfl hne
theorem am_gl {g n : Nat} : AM.GL (AM.eTab g n) [g] := by
 intro x hx
 have : x = g := by simpa using hx
 subst this
 exact ⟨⟨x, 0, n⟩, by unfold AM.eTab; rw [if_pos rfl], rfl, rfl⟩
theorem SCall.of_am {P : Program} {ib : Option Nat} {n f g : Nat} {k : IntKind} {zs : List Int} {h : H} {op q : Bool} (pr : AM.PrOk ⟨P, [g], ib⟩) {u : Option AM.AMode} {h' : AM.H} (hr : AM.run ⟨P, [g], ib⟩ n (.call f [] none (AM.hTab g k zs)) = .ok (.e (.ret (.bool q)) u h'))
  (hg : g < AM.glim) (hob : h.ob g = some (.cells op (zs.map fun z => .int k z))) : SCall P [g] f [] none h (.ret (.bool q)) none h := by
 obtain ⟨sc, fn, hfn, hbd⟩ := (AM.run_sound pr n).call _ _ _ _ _ _ _ hr
 refine ⟨rfl, ⟨fn, hfn, hbd, pr.names f fn hfn hbd⟩, fun E F w0 w args' kind cs hF m gl ra huk => ?_⟩
 obtain ⟨x, am⟩ := am_tab m hg gl hob
 generalize hl : args'.toList = l at ra
 cases ra
 obtain ⟨E', w', cs', fr', a1, a2, a3, a4, a5, a6, a7, a8, a9, a10, a11⟩ := sc (AM.eTab g x) w w args' kind cs am am_gl (by rw [hl]; exact .nil) huk
 have e1 : cs' = cs := a4
 subst e1
 obtain ⟨hm, fn2, v', h1, h2, h3⟩ := a11
 cases h3
 exact ⟨E, F, w', cs', fr', Ext.refl _ _, hF, rfl, m.grow a2.below, huk, rfl, rfl, a6, a7, a8, a9, a10, hm, fn2, _, h1, h2, .bool q⟩
theorem SCall.more {P : Program} {gl : List Nat} {f : FuncId} {args : List V} {u u' : Option AMode} {h h' : H} {r : AEnd} (s : SCall P [] f args u h r u' h') : SCall P gl f args u h r u' h' :=
 ⟨s.lc, s.fn, fun E F w0 w args' kind cs hF m g ra huk => s.run E F w0 w args' kind cs hF m (by intro x hx; cases hx) ra huk⟩
def tabO (k : IntKind) (zs : List Int) : List V := zs.map fun z => .int k z
def hT (g : Nat) (k : IntKind) (zs : List Int) : H := ⟨glim, og [(g, .cells false (tabO k zs))], []⟩
def ET (w : World) (g n : Nat) : Env := ⟨fun b => if b = g then some ⟨g, 0, n⟩ else none, fzOf w, fun _ _ => none⟩
theorem tabO_in {D : Nat → Prop} {k : IntKind} : ∀ {zs : List Int}, Ins D (tabO k zs)
 | [] => trivial
 | _ :: zs => ⟨trivial, tabO_in (zs := zs)⟩
theorem E0_le {w : World} {g n : Nat} : (E0 w).le (ET w g n) := ⟨(fun _ _ h => by cases h), (fun _ _ _ h => h), (fun _ _ _ h => by cases h)⟩
theorem MR.tabV {w : World} {g : Nat} {k : IntKind} {zs : List Int} {c : Array Value} {t : TypeId} (hg : g < glim) (hb : w.heap[g]? = some (.cells c t (0, 0))) (hc : c = (zs.map fun z => Value.int k z).toArray) : MR (ET w g zs.length) F0 (hT g k zs) w w := by
 have hlt : g < w.heap.size := (Array.getElem?_eq_some_iff.1 hb).1
 have hE : ∀ b p, (ET w g zs.length).ob b = some p → b = g ∧ p = ⟨g, 0, zs.length⟩ := by
  intro b p h
  simp only [ET] at h
  split at h
  ·rename_i e; cases h; exact ⟨e, rfl⟩
  ·cases h
 have hO : ∀ b o, (hT g k zs).ob b = some o → b = g ∧ o = .cells false (tabO k zs) := by
  intro b o h
  simp only [hT, og_cons] at h
  split at h
  ·rename_i e; cases h; exact ⟨e, rfl⟩
  ·cases h
 refine ⟨Below.refl _ _, fun b hb' => ?_, Nat.le_refl _, fun b o _ ho => ?_, fun b p _ hp => ?_, fun B h => (h rfl).elim, fun b o p ho hp => ?_, fun b o p hb' ho _ => ?_, fun B i v h => fzOf_spec h, fun B i v h hB => ?_, fun b n p ho _ => ?_, fun b n m ho _ => ?_, fun b n ho => ?_, fun d p hp => (by cases hp), fun B x hx => (by cases hx)⟩
 ·have hb' : glim ≤ b := hb'
  have hne : b ≠ g := by omega
  exact ⟨by simp only [ET]; rw [if_neg hne], by simp only [hT, og_cons]; rw [if_neg hne]; rfl, fun _ => rfl⟩
 ·obtain ⟨_, rfl⟩ := hO b o ho; exact ⟨_, _, rfl⟩
 ·obtain ⟨_, rfl⟩ := hE b p hp; exact hlt
 ·obtain ⟨rfl, rfl⟩ := hE b p hp
  obtain ⟨_, rfl⟩ := hO _ o ho
  refine ⟨c, t, 0, 0, hb, fun i _ h => by omega, by rw [hc]; simp, by simp [tabO], fun i v hv => ?_⟩
  unfold tabO at hv
  rw [List.getElem?_map] at hv
  cases hz : zs[i]? with
  | none => rw [hz] at hv; cases hv
  | some z =>
   rw [hz] at hv
   cases hv
   exact ⟨rfl, .int k z, by rw [hc]; simp [hz], .int k z⟩
 ·obtain ⟨rfl, _⟩ := hO b o ho; omega
 ·obtain ⟨c, el, q, h1, _⟩ := fzOf_spec h
  have := (Array.getElem?_eq_some_iff.1 h1).1
  omega
 ·obtain ⟨_, e⟩ := hO b _ ho; cases e
 ·obtain ⟨_, e⟩ := hO b _ ho; cases e
 ·obtain ⟨_, e⟩ := hO b _ ho; cases e
theorem GL.tabV {w : World} {g n : Nat} : GL (ET w g n) [g] := by
 intro x hx
 have : x = g := by simpa using hx
 subst this
 exact ⟨⟨x, 0, n⟩, by simp [ET], rfl, rfl⟩
theorem calls_tab {P : Program} {f g : Nat} {k : IntKind} {zs : List Int} {args : List V} {args' : Array Value} {v : V} {h' : H} {w : World} {c : Array Value} {t : TypeId} (s : SCall P [g] f args none (hT g k zs) (.ret v) none h')
  (hg : g < glim) (hb : w.heap[g]? = some (.cells c t (0, 0))) (hc : c = (zs.map fun z => Value.int k z).toArray) (ha : ARs (E0 w) args args'.toList) :
  Calls P f args' w fun e w' => ∃ E' v', e = .returned v' ∧ AR E' v v' ∧ Below w.heap.size w w' := by
 intro cs
 obtain ⟨E', F', w', cs', fr', a1, a2, a3, a4, a5, a6, a7, a8, a9, a10, a11, a12, z1, fnr, x, z2, z3, z4⟩ := s.run (ET w g zs.length) F0 w w args' .normal cs rfl (MR.tabV hg hb hc) GL.tabV (ha.mono E0_le) rfl
 have e1 : cs' = cs := a6
 subst e1
 exact ⟨.returned x, w', fr', ⟨E', x, rfl, z4, a4.below⟩, a8, a9, z1, a12, a10, fnr, z2, z3⟩
theorem awake_of {P : Program} {ib : Option Nat} {n f g nx : Nat} {k : IntKind} {zs : List Int} {lc : LM} {ol : OL} (pr : AM.PrOk ⟨P, [g], ib⟩) (hr : AM.isTrue (AM.run ⟨P, [g], ib⟩ n (.call f [] none (AM.hTab g k zs))) = true) (hg : g < AM.glim) (hol : og ol g = some (.cells false (tabO k zs))) :
  SCall P [g] f [] none ⟨nx, og ol, lc⟩ (.ret (.bool true)) none ⟨nx, og ol, lc⟩ := by
 obtain ⟨u, h', e⟩ := AM.isTrue_spec hr
 exact SCall.of_am pr e hg hol
end Go.VM
end
