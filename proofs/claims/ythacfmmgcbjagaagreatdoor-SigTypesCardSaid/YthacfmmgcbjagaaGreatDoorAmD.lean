/- laid for this seat: AmDrawn1 AmDrawn2 AmDrawn3 AmDrawn4 AmDrawn5 -/
import Derived.Test.YthacfmmgcbjagaaGreatDoorAmC
import Derived.Orders
section
/- The abstract machine: regions whose order is drawn: their items. -/
set_option linter.unusedVariables false
set_option linter.unusedSimpArgs false
namespace Go.AM
noncomputable section
open Go.RowKit
variable {P : Program}
theorem ancOf_bit {acc : List Nat} {j : Nat} : ∀ {es : List Edge}, (ancOf acc es).testBit j = true → ∃ e ∈ es, Region.binds .any e = true ∧ (j = e.on ∨ (acc.getD e.on 0).testBit j = true)
 | [], h => by simp [ancOf] at h
 | e :: es, h => by
  simp only [ancOf] at h
  split at h
  ·rename_i hb
   rw [Nat.testBit_or, Nat.testBit_or, Bool.or_eq_true, Bool.or_eq_true] at h
   rcases h with (h | h) | h
   ·rw [Nat.testBit_two_pow] at h
    exact ⟨e, List.mem_cons_self .., hb, .inl (of_decide_eq_true h).symm⟩
   ·exact ⟨e, List.mem_cons_self .., hb, .inr h⟩
   ·obtain ⟨e', h1, h2, h3⟩ := ancOf_bit h
    exact ⟨e', List.mem_cons_of_mem _ h1, h2, h3⟩
  ·obtain ⟨e', h1, h2, h3⟩ := ancOf_bit h
   exact ⟨e', List.mem_cons_of_mem _ h1, h2, h3⟩
theorem ancs_spec : ∀ (os : List Oper) (acc : List Nat), ∃ A, ancs os acc = acc ++ A ∧ A.length = os.length ∧ ∀ (k : Nat) (o : Oper), os[k]? = some o → A[k]? = some (ancOf (acc ++ A.take k) o.after.toList)
 | [], acc => ⟨[], by simp [ancs], rfl, by simp⟩
 | o :: os, acc => by
  obtain ⟨A, h1, h2, h3⟩ := ancs_spec os (acc ++ [ancOf acc o.after.toList])
  refine ⟨ancOf acc o.after.toList :: A, by simp [ancs, h1], by simp [h2], fun k o' hk => ?_⟩
  cases k with
  | zero => simp at hk; subst hk; simp
  | succ k => simpa using h3 k o' (by simpa using hk)
theorem mkIts_spec (hs : List Nat) : ∀ (os : List Oper) (as : List Nat) (i : Nat), os.length = as.length →
  ∀ (k : Nat) (o : Oper) (an : Nat), os[k]? = some o → as[k]? = some an → (mkIts P hs os as i)[k]? = some ⟨i + k, o, cls P o, an, countBits an hs⟩
 | [], _, _, _, k, o, an, h, _ => by simp at h
 | o :: os, [], _, hl, _, _, _, _, _ => by simp at hl
 | o :: os, a :: as, i, hl, 0, o', an, h, g => by simp at h g; subst h; subst g; simp [mkIts]
 | o :: os, a :: as, i, hl, k + 1, o', an, h, g => by
  have := mkIts_spec hs os as (i + 1) (by simpa using hl) k o' an (by simpa using h) (by simpa using g)
  simp only [mkIts, List.getElem?_cons_succ, this]
  congr 2; omega
theorem mkIts_mem (hs : List Nat) : ∀ (os : List Oper) (as : List Nat) (i : Nat) (it : It), it ∈ mkIts P hs os as i → ∃ k, os[k]? = some it.o ∧ as[k]? = some it.anc ∧ it.i = i + k ∧ it.c = cls P it.o
 | [], _, _, it, h => by simp [mkIts] at h
 | o :: os, [], _, it, h => by simp [mkIts] at h
 | o :: os, a :: as, i, it, h => by
  simp only [mkIts, List.mem_cons] at h
  rcases h with rfl | h
  ·exact ⟨0, rfl, rfl, rfl, rfl⟩
  ·obtain ⟨k, h1, h2, h3, h4⟩ := mkIts_mem hs os as (i + 1) it h
   exact ⟨k + 1, by simpa using h1, by simpa using h2, by omega, h4⟩
structure ItsOk (P : Program) (ops : Array Oper) (its : List It) : Prop where
 op : ∀ it ∈ its, ops[it.i]? = some it.o
 cl : ∀ it ∈ its, it.c = cls P it.o
 all : ∀ i, i < ops.size → ∃ it ∈ its, it.i = i
 uniq : ∀ a ∈ its, ∀ b ∈ its, a.i = b.i → a = b ∨ (a.o = b.o ∧ a.anc = b.anc ∧ a.c = b.c)
 anc : ∀ it ∈ its, ∀ j, it.anc.testBit j = true → ∃ e ∈ it.o.after.toList, Region.binds .any e = true ∧ (j = e.on ∨ ∃ it2 ∈ its, it2.i = e.on ∧ it2.i < it.i ∧ it2.anc.testBit j = true)
theorem items_ok (ops : Array Oper) : ItsOk P ops (items P ops.toList) := by
 obtain ⟨A, h1, h2, h3⟩ := ancs_spec ops.toList []
 have hA : ancs ops.toList [] = A := by simpa using h1
 have hl : ops.toList.length = A.length := h2.symm
 unfold items
 rw [hA]
 generalize heavyBits P ops.toList 0 = hs
 have mem := mkIts_mem (P := P) hs ops.toList A 0
 refine ⟨fun it hit => ?_, fun it hit => ?_, fun i hi => ?_, fun a ha b hb hab => ?_, fun it hit j hj => ?_⟩
 ·obtain ⟨k, g1, g2, g3, g4⟩ := mem it hit
  rw [g3, Nat.zero_add]; simpa using g1
 ·obtain ⟨k, g1, g2, g3, g4⟩ := mem it hit; exact g4
 ·obtain ⟨o, ho⟩ : ∃ o, ops.toList[i]? = some o := ⟨ops.toList[i]'(by simpa using hi), by simp [hi]⟩
  have := mkIts_spec (P := P) hs ops.toList A 0 hl i o _ ho (h3 i o ho)
  exact ⟨_, List.mem_of_getElem? this, by simp⟩
 ·obtain ⟨k, g1, g2, g3, g4⟩ := mem a ha
  obtain ⟨k', g1', g2', g3', g4'⟩ := mem b hb
  have : k = k' := by omega
  subst this
  rw [g1] at g1'; rw [g2] at g2'
  have e1 := Option.some.inj g1'
  have e2 := Option.some.inj g2'
  exact .inr ⟨e1, e2, by rw [g4, g4', e1]⟩
 ·obtain ⟨k, g1, g2, g3, g4⟩ := mem it hit
  have := h3 k it.o g1
  rw [g2] at this
  have e := Option.some.inj this
  rw [e] at hj
  obtain ⟨ed, q1, q2, q3⟩ := ancOf_bit hj
  refine ⟨ed, q1, q2, ?_⟩
  rcases q3 with q3 | q3
  ·exact .inl q3
  ·refine .inr ?_
   rw [List.nil_append, List.getD_eq_getElem?_getD, List.getElem?_take] at q3
   split at q3
   ·rename_i hlt
    cases hA2 : A[ed.on]? with
    | none => rw [hA2] at q3; simp at q3
    | some an =>
     rw [hA2] at q3
     have hlt2 : ed.on < A.length := (List.getElem?_eq_some_iff.1 hA2).1
     obtain ⟨o2, ho2⟩ : ∃ o, ops.toList[ed.on]? = some o := ⟨ops.toList[ed.on]'(by omega), by simp⟩
     have := mkIts_spec (P := P) hs ops.toList A 0 hl ed.on o2 an ho2 hA2
     exact ⟨_, List.mem_of_getElem? this, by simp, by simp; omega, by simpa using q3⟩
   ·simp at q3
theorem anc_in {ops : Array Oper} {its : List It} (ok : ItsOk P ops its) {I : Nat → Bool} (dc : ∀ it ∈ its, I it.i = true → ∀ e ∈ it.o.after.toList, Region.binds .any e = true → I e.on = true) :
  ∀ (n : Nat) (it : It), it.i < n → it ∈ its → (∀ e ∈ it.o.after.toList, Region.binds .any e = true → I e.on = true) → ∀ j, it.anc.testBit j = true → I j = true := by
 intro n
 induction n with
 | zero => intro it h; omega
 | succ n ih =>
  intro it hn hit he j hj
  obtain ⟨e, h1, h2, h3⟩ := ok.anc it hit j hj
  rcases h3 with rfl | ⟨it2, q1, q2, q3, q4⟩
  ·exact he e h1 h2
  ·exact ih it2 (by omega) q1 (dc it2 q1 (by rw [q2]; exact he e h1 h2)) j q4
def putE (tm : T V) (e : Ev) : T V :=
 match e.it.o.dst with
 | some d => tm.set fu d e.v
 | none => tm
def tmOf (I : Nat → Bool) (tm0 : T V) : List Ev → T V
 | [] => tm0
 | e :: es => if I e.it.i = true then putE (tmOf I tm0 es) e else tmOf I tm0 es
theorem putE_get {tm : T V} {e : Ev} {t : Nat} (h : ∀ d, e.it.o.dst = some d → d < lim) : (putE tm e).get t = if e.it.o.dst = some t then some e.v else tm.get t := by
 unfold putE
 cases hd : e.it.o.dst with
 | none => simp
 | some d =>
  simp only [T.get_set _ _ _ _ _ (fu_lim (h d hd)), Option.some.injEq]
  by_cases hdt : d = t
  ·rw [if_pos hdt.symm, if_pos hdt]
  ·rw [if_neg (fun e => hdt e.symm), if_neg hdt]
theorem tmOf_skip {I : Nat → Bool} {tm0 : T V} {t : Nat} {pre : List Ev} : ∀ (post : List Ev), (∀ e ∈ post, ∀ d, e.it.o.dst = some d → d < lim) → (∀ e ∈ post, I e.it.i = true → e.it.o.dst ≠ some t) →
  (tmOf I tm0 (post ++ pre)).get t = (tmOf I tm0 pre).get t
 | [], _, _ => rfl
 | e :: post, hl, h => by
  have ih := tmOf_skip (I := I) (tm0 := tm0) (t := t) (pre := pre) post (fun e he => hl e (List.mem_cons_of_mem _ he)) (fun e he => h e (List.mem_cons_of_mem _ he))
  simp only [List.cons_append, tmOf]
  split
  ·rename_i hi
   rw [putE_get (hl e (List.mem_cons_self ..)), if_neg (h e (List.mem_cons_self ..) hi)]; exact ih
  ·exact ih
theorem tmOf_same {I J : Nat → Bool} {tm0 : T V} {t : Nat} : ∀ (es : List Ev), (∀ e ∈ es, ∀ d, e.it.o.dst = some d → d < lim) → (∀ e ∈ es, e.it.o.dst = some t → I e.it.i = J e.it.i) → (tmOf I tm0 es).get t = (tmOf J tm0 es).get t
 | [], _, _ => rfl
 | e :: es, hl, h => by
  have ih := tmOf_same (I := I) (J := J) (tm0 := tm0) (t := t) es (fun e he => hl e (List.mem_cons_of_mem _ he)) (fun e he => h e (List.mem_cons_of_mem _ he))
  have hl0 := hl e (List.mem_cons_self ..)
  simp only [tmOf]
  by_cases hd : e.it.o.dst = some t
  ·rw [h e (List.mem_cons_self ..) hd]
   split
   ·rw [putE_get hl0, putE_get hl0, if_pos hd, if_pos hd]
   ·exact ih
  ·have g : ∀ (b : Bool) (tm : T V), (if b = true then putE tm e else tm).get t = tm.get t := by
    intro b tm; split
    ·rw [putE_get hl0, if_neg hd]
    ·rfl
   rw [g, g]; exact ih
theorem sub_get {tm : T V} {t : Nat} {v : V} : ∀ {ts : List Nat}, (sub tm ts).get t = some v → t ∈ ts ∧ tm.get t = some v
 | [], h => by simp [sub_n, T.get_leaf] at h
 | s :: ts, h => by
  simp only [sub_c] at h
  split at h
  ·rename_i u hu hlt
   have hlt' : s < lim := by rwa [Nat.blt_eq] at hlt
   rw [T.get_set _ _ _ _ _ (fu_lim hlt')] at h
   split at h
   ·rename_i e; cases h; subst e; exact ⟨List.mem_cons_self .., hu⟩
   ·obtain ⟨a, b⟩ := sub_get h; exact ⟨List.mem_cons_of_mem _ a, b⟩
  ·obtain ⟨a, b⟩ := sub_get h; exact ⟨List.mem_cons_of_mem _ a, b⟩
end
end Go.AM
end
section
/- The abstract machine: regions whose order is drawn: what stays true. -/
set_option linter.unusedVariables false
set_option linter.unusedSimpArgs false
namespace Go.AM
noncomputable section
open Go.RowKit
structure Good (fr : Fr) (ops : Array Oper) (its : List It) (tm0 : T V) (d : DS) : Prop where
 mem : ∀ e ∈ d.evs, e.it ∈ its
 mask : ∀ j, d.mask.testBit j = true ↔ ∃ e ∈ d.evs, e.it.i = j
 tm : d.s.tm = tmOf (fun _ => true) tm0 d.evs
 dst : ∀ e ∈ d.evs, ∀ s, e.it.o.dst = some s → s < fr.nt
 bb : ∀ e ∈ d.evs, e.k = 2 → e.b < d.s.h.nxt
 split : ∀ post e pre, d.evs = post ++ e :: pre →
  (∀ j, e.it.anc.testBit j = true → ∃ e' ∈ pre, e'.it.i = j) ∧ (∀ e' ∈ pre, e'.it.i ≠ e.it.i) ∧
  (∀ t v, e.tmr.get t = some v → t ∈ tmpsOf ops e.it.o ∧ (tmOf (fun _ => true) tm0 pre).get t = some v) ∧
  (∀ e' ∈ pre, e'.k = 2 → e'.b < e.b) ∧
  (e.k = 0 → wantedA ops e.it.o e.tmr = some false ∧ e.v = undefV) ∧ (e.k ≠ 0 → wantedA ops e.it.o e.tmr = some true)
theorem Good.nil {fr : Fr} {ops : Array Oper} {its : List It} {s : S} : Good fr ops its s.tm ⟨s, [], 0⟩ :=
 ⟨by simp, by simp, rfl, by simp, by simp, by intro post e pre h; simp at h⟩
theorem turn_spec {d : DS} {it : It} (h : turnOk d it = true) : (∀ j, it.anc.testBit j = true → d.mask.testBit j = true) ∧ d.mask.testBit it.i = false := by
 unfold turnOk at h
 simp only [Bool.and_eq_true, Bool.not_eq_true'] at h
 refine ⟨fun j hj => ?_, h.2⟩
 have e := Nat.eq_of_beq_eq_true h.1
 rw [← e, Nat.testBit_and, Bool.and_eq_true] at hj
 exact hj.2
theorem Good.add {fr : Fr} {ops : Array Oper} {its : List It} {tm0 : T V} {d d' : DS} {it : It} {k : Nat} {v : V} {s : S} (g : Good fr ops its tm0 d) (hit : it ∈ its) (ht : turnOk d it = true)
  (ha : d.add fr it (sub d.s.tm (tmpsOf ops it.o)) k v s = some d') (hs : s.tm = d.s.tm) (hn : d.s.h.nxt ≤ s.h.nxt) (hk2 : k = 2 → d.s.h.nxt < s.h.nxt)
  (h0 : k = 0 → wantedA ops it.o (sub d.s.tm (tmpsOf ops it.o)) = some false ∧ v = undefV) (h1 : k ≠ 0 → wantedA ops it.o (sub d.s.tm (tmpsOf ops it.o)) = some true) :
  Good fr ops its tm0 d' ∧ ∃ tm, putT fr.nt d.s.tm it.o.dst v = some tm ∧ d' = { s := { s with tm }, evs := ⟨it, sub d.s.tm (tmpsOf ops it.o), k, v, d.s.h.nxt⟩ :: d.evs, mask := d.mask ||| 2 ^ it.i } := by
 unfold DS.add at ha
 split at ha
 ·rename_i tm htm
  cases ha
  obtain ⟨t1, t2⟩ := turn_spec ht
  refine ⟨⟨fun e he => ?_, fun j => ?_, ?_, fun e he q hq => ?_, fun e he hk => ?_, fun post e pre heq => ?_⟩, tm, htm, rfl⟩
  ·cases he with
   | head => exact hit
   | tail _ he => exact g.mem e he
  ·rw [Nat.testBit_or, Bool.or_eq_true, g.mask, Nat.testBit_two_pow]
   constructor
   ·rintro (⟨e, h1, h2⟩ | h)
    ·exact ⟨e, List.mem_cons_of_mem _ h1, h2⟩
    ·exact ⟨_, List.mem_cons_self .., of_decide_eq_true h⟩
   ·rintro ⟨e, h1, h2⟩
    cases h1 with
    | head => exact .inr (decide_eq_true h2)
    | tail _ h1 => exact .inl ⟨e, h1, h2⟩
  ·show tm = _
   simp only [tmOf, if_true, putE]
   rw [← g.tm]
   cases hd : it.o.dst with
   | none => rw [hd] at htm; simp [putT] at htm; exact htm.symm
   | some q =>
    rw [hd] at htm
    simp only [putT] at htm
    split at htm
    ·cases htm; rfl
    ·cases htm
  ·cases he with
   | head =>
    have hq' : it.o.dst = some q := hq
    rw [hq'] at htm
    simp only [putT] at htm
    split at htm
    ·rename_i hb; rwa [Nat.blt_eq] at hb
    ·cases htm
   | tail _ he => exact g.dst e he q hq
  ·cases he with
   | head => exact hk2 hk
   | tail _ he => exact Nat.lt_of_lt_of_le (g.bb e he hk) hn
  ·cases post with
   | nil =>
    simp only [List.nil_append, List.cons.injEq] at heq
    obtain ⟨rfl, rfl⟩ := heq
    refine ⟨fun j hj => (g.mask j).1 (t1 j hj), fun e' he' hne => ?_, fun t u hu => ?_, fun e' he' hk => g.bb e' he' hk, h0, h1⟩
    ·have := (g.mask it.i).2 ⟨e', he', hne⟩
     rw [t2] at this; cases this
    ·obtain ⟨a, b⟩ := sub_get hu
     rw [← g.tm]; exact ⟨a, b⟩
   | cons p post =>
    simp only [List.cons_append, List.cons.injEq] at heq
    exact g.split post e pre heq.2
 ·cases ha
theorem Good.once {fr : Fr} {ops : Array Oper} {its : List It} {tm0 : T V} {d : DS} (g : Good fr ops its tm0 d) {post pre : List Ev} {e : Ev} (h : d.evs = post ++ e :: pre) :
  (∀ e' ∈ post, e'.it.i ≠ e.it.i ∧ ∀ e'' ∈ pre, e'.it.i ≠ e''.it.i) := by
 intro e' he'
 obtain ⟨p1, p2, rfl⟩ := List.append_of_mem he'
 have := (g.split p1 e' (p2 ++ e :: pre) (by rw [h]; simp)).2.1
 exact ⟨fun q => this e (by simp) q.symm, fun e'' h'' q => this e'' (by simp [h'']) q.symm⟩
theorem slot_spec {ops : Array Oper} {its : List It} (h : slotOk ops its = true) {x y : It} (hx : x ∈ its) (hy : y ∈ its) (hne : x.i ≠ y.i) {t : Nat} (hd : y.o.dst = some t) (hr : t ∈ tmpsOf ops x.o ∨ x.o.dst = some t) :
  x.anc.testBit y.i = true ∨ y.anc.testBit x.i = true := by
 unfold slotOk at h
 have := List.all_eq_true.1 (List.all_eq_true.1 h x hx) y hy
 simp only [hd, Bool.or_eq_true, Bool.not_eq_true', cmpb] at this
 rcases this with (h1 | h1) | h1
 ·exact absurd h1 (by first | (intro q; exact hne (Nat.eq_of_beq_eq_true q)) | (intro q; exact hne (Nat.eq_of_beq_eq_true q).symm) | (intro q; exact hne (eq_of_beq q)) | (intro q; exact hne (eq_of_beq q).symm) | (simpa using hne) | (intro q; exact hne (by simpa using q)))
 ·exact h1
 ·exfalso
  rw [Bool.or_eq_false_iff] at h1
  rcases hr with hr | hr
  ·have := h1.1; rw [List.contains_iff_mem.2 hr] at this; cases this
  ·have := h1.2; rw [hr] at this; simp at this
def Closed (its : List It) (I : Nat → Bool) : Prop := ∀ it ∈ its, I it.i = true → ∀ e ∈ it.o.after.toList, Region.binds .any e = true → I e.on = true
structure INV (C : Cfg) (fr : Fr) (ops : Array Oper) (its : List It) (tm0 : T V) (d : DS) (I : Nat → Bool) (E : Env) (w0 w : World) (b : Frame) (tmps : Array Value) (df : List Deferred) (cs : List Frame) : Prop where
 good : Good fr ops its tm0 d
 st : StR C.gl E fr { d.s with tm := tmOf I tm0 d.evs } b tmps df cs w0 w
 sub : ∀ i, I i = true → ∃ e ∈ d.evs, e.it.i = i
 heavy : ∀ e ∈ d.evs, 3 ≤ e.it.c → I e.it.i = true
 kc : ∀ e ∈ d.evs, e.it.c < 3 → e.k ≤ 2
 pur : ∀ e ∈ d.evs, e.k = 1 → pureOp e.it.o = true → ∀ h, alight C.P C.gl e.tmr h e.it.o = some e.v
 alloc : ∀ e ∈ d.evs, I e.it.i = false → e.k = 2 → ∃ ob, E e.b = none ∧ glim ≤ e.b ∧ d.s.h.get e.b = some ob ∧ AllocR C.P C.gl fr.nt e.tmr e.it.o e.b ob e.v
def Lights (C : Cfg) (d : DS) (I : Nat → Bool) : Prop := ∀ e ∈ d.evs, I e.it.i = false → e.k = 1 → alight C.P C.gl e.tmr d.s.h e.it.o = some e.v
section
variable {C : Cfg} {fr : Fr} {ops : Array Oper} {its : List It} {tm0 : T V} {d : DS} {I : Nat → Bool} {E : Env} {w0 w : World} {b : Frame} {tmps : Array Value} {df : List Deferred} {cs : List Frame}
theorem ev_anc (ok : ItsOk C.P ops its) (dc : Closed its I) {it : It} (hit : it ∈ its) (hI : I it.i = true) : ∀ j, it.anc.testBit j = true → I j = true :=
 anc_in ok dc (it.i + 1) it (Nat.lt_succ_self _) hit (dc it hit hI)
theorem post_clear (ok : ItsOk C.P ops its) (sl : slotOk ops its = true) (dc : Closed its I) (g : Good fr ops its tm0 d) {post pre : List Ev} {e : Ev} (h : d.evs = post ++ e :: pre) (hI : I e.it.i = false) {t : Nat}
  (hr : t ∈ tmpsOf ops e.it.o ∨ e.it.o.dst = some t) : ∀ e' ∈ post, I e'.it.i = true → e'.it.o.dst ≠ some t := by
 intro e' he' hI' hd
 obtain ⟨n1, n2⟩ := g.once h e' he'
 have m1 := g.mem e (by rw [h]; simp)
 have m2 := g.mem e' (by rw [h]; simp [he'])
 rcases slot_spec sl m1 m2 (fun q => n1 q.symm) hd hr with h1 | h1
 ·obtain ⟨e'', h2, h3⟩ := (g.split post e pre h).1 _ h1
  exact n2 e'' h2 h3.symm
 ·have := ev_anc ok dc m2 hI' _ h1
  rw [hI] at this; cases this
theorem pend_get (ok : ItsOk C.P ops its) (sl : slotOk ops its = true) (dc : Closed its I) (v : INV C fr ops its tm0 d I E w0 w b tmps df cs) {e : Ev} (he : e ∈ d.evs) (hI : I e.it.i = false) (ha : ∀ j, e.it.anc.testBit j = true → I j = true) :
  ∀ t u, e.tmr.get t = some u → (tmOf I tm0 d.evs).get t = some u := by
 intro t u hu
 obtain ⟨post, pre, heq⟩ := List.append_of_mem he
 obtain ⟨s1, s2, s3, s4, s5, s6⟩ := v.good.split post e pre heq
 obtain ⟨ht, hg⟩ := s3 t u hu
 have hl : ∀ e' ∈ d.evs, ∀ q, e'.it.o.dst = some q → q < lim := fun e' h' q hq => Nat.lt_of_lt_of_le (v.good.dst e' h' q hq) v.st.fr.nt
 rw [heq, tmOf_skip post (fun e' h' => hl e' (by rw [heq]; simp [h'])) (post_clear ok sl dc v.good heq hI (.inl ht))]
 simp only [tmOf, hI, Bool.false_eq_true, if_false]
 rw [tmOf_same (J := fun _ => true) pre (fun e' h' => hl e' (by rw [heq]; simp [h'])) (fun e' h' hd => ?_)]
 ·exact hg
 ·have m1 := v.good.mem e he
  have m2 := v.good.mem e' (by rw [heq]; simp [h'])
  rcases slot_spec sl m1 m2 (fun q => s2 e' h' q.symm) hd (.inl ht) with h1 | h1
  ·exact ha _ h1
  ·exfalso
   obtain ⟨p1, p2, hp⟩ := List.append_of_mem h'
   obtain ⟨q1, q2, _⟩ := v.good.split (post ++ e :: p1) e' p2 (by rw [heq, hp]; simp)
   obtain ⟨e'', h2, h3⟩ := q1 _ h1
   exact s2 e'' (by rw [hp]; simp [h2]) h3
theorem pend_TR (ok : ItsOk C.P ops its) (sl : slotOk ops its = true) (dc : Closed its I) (v : INV C fr ops its tm0 d I E w0 w b tmps df cs) {e : Ev} (he : e ∈ d.evs) (hI : I e.it.i = false) (ha : ∀ j, e.it.anc.testBit j = true → I j = true) : TR E fr.nt e.tmr tmps :=
 ⟨v.st.tr.1, fun t u hu => v.st.tr.2 t u (pend_get ok sl dc v he hI ha t u hu)⟩
def ins (I : Nat → Bool) (i : Nat) : Nat → Bool := fun j => if j = i then true else I j
theorem ins_TR (ok : ItsOk C.P ops its) (sl : slotOk ops its = true) (dc : Closed its I) (v : INV C fr ops its tm0 d I E w0 w b tmps df cs) {E' : Env} (hE : E.le E') {e : Ev} (he : e ∈ d.evs) (hI : I e.it.i = false) {v' : Value} (hv : AR E' e.v v') :
  TR E' fr.nt (tmOf (ins I e.it.i) tm0 d.evs) (putA tmps e.it.o.dst v') := by
 obtain ⟨post, pre, heq⟩ := List.append_of_mem he
 have hl : ∀ e' ∈ d.evs, ∀ q, e'.it.o.dst = some q → q < lim := fun e' h' q hq => Nat.lt_of_lt_of_le (v.good.dst e' h' q hq) v.st.fr.nt
 have honce := v.good.once heq
 have s2 := (v.good.split post e pre heq).2.1
 have same : ∀ e' ∈ post, ins I e.it.i e'.it.i = I e'.it.i := by
  intro e' h'; unfold ins; rw [if_neg (honce e' h').1]
 have same2 : ∀ e' ∈ pre, ins I e.it.i e'.it.i = I e'.it.i := by
  intro e' h'; unfold ins; rw [if_neg (s2 e' h')]
 have tr := v.st.tr
 have key : ∀ t, e.it.o.dst ≠ some t → (tmOf (ins I e.it.i) tm0 d.evs).get t = (tmOf I tm0 d.evs).get t := by
  intro t ht
  refine tmOf_same d.evs hl fun e' h' hd => ?_
  unfold ins
  split
  ·rename_i q
   exfalso
   have hm := v.good.mem e' h'
   have hm2 := v.good.mem e he
   rw [heq] at h'
   rcases List.mem_append.1 h' with h' | h'
   ·exact (honce e' h').1 q
   ·cases h' with
    | head => exact ht hd
    | tail _ h' => exact s2 e' h' q
  ·rfl
 refine ⟨?_, fun t u hu => ?_⟩
 ·cases e.it.o.dst with
  | none => exact tr.1
  | some q => simp only [putA, Array.size_setIfInBounds]; exact tr.1
 ·by_cases hd : e.it.o.dst = some t
  ·have hg : (tmOf (ins I e.it.i) tm0 d.evs).get t = some e.v := by
    rw [heq, tmOf_skip post (fun e' h' => hl e' (by rw [heq]; simp [h'])) (fun e' h' hI' => ?_)]
    ·simp only [tmOf]
     rw [if_pos (by unfold ins; rw [if_pos rfl]), putE_get (hl e he), if_pos hd]
    ·rw [same e' h'] at hI'
     exact post_clear ok sl dc v.good heq hI (.inr hd) e' h' hI'
   rw [hg] at hu
   cases hu
   refine ⟨v', ?_, hv⟩
   rw [hd]
   simp only [putA, Array.getElem?_setIfInBounds, if_true]
   rw [if_pos (by rw [tr.1]; exact v.good.dst e he t hd)]
  ·rw [key t hd] at hu
   obtain ⟨u', h1, h2⟩ := tr.2 t u hu
   refine ⟨u', ?_, h2.mono hE⟩
   cases hq : e.it.o.dst with
   | none => exact h1
   | some q =>
    simp only [putA, Array.getElem?_setIfInBounds]
    rw [if_neg (fun z => hd (by rw [hq, z]))]; exact h1
end
end
end Go.AM
end
section
/- The abstract machine: regions whose order is drawn: items in the model's own order. -/
set_option linter.unusedVariables false
set_option linter.unusedSimpArgs false
namespace Go.AM
noncomputable section
open Go.RowKit
mutual
theorem V.beq_eq : ∀ (a b : V), V.beq a b = true → a = b
 | .bool a, b, h => by cases b <;> simp [V.beq] at h; rw [h]
 | .int k a, b, h => by cases b <;> simp [V.beq] at h; rw [h.1, h.2]
 | .str a, b, h => by cases b <;> simp [V.beq] at h; rw [(seq_iff _ _).1 h]
 | .nilp, b, h => by cases b <;> simp [V.beq] at h; rfl
 | .ptr x y, b, h => by cases b <;> simp [V.beq] at h; rw [h.1, h.2]
 | .nils, b, h => by cases b <;> simp [V.beq] at h; rfl
 | .sl x y z c, b, h => by cases b <;> simp [V.beq] at h; obtain ⟨⟨⟨rfl, rfl⟩, rfl⟩, rfl⟩ := h; rfl
 | .nilm, b, h => by cases b <;> simp [V.beq] at h; rfl
 | .map x, b, h => by cases b <;> simp [V.beq] at h; rw [h]
 | .fn f a c, b, h => by
  cases b <;> simp [V.beq] at h
  obtain ⟨⟨rfl, h1⟩, h2⟩ := h
  rw [V.beqs_eq _ _ h1, V.beqs_eq _ _ h2]
 | .nilf, b, h => by cases b <;> simp [V.beq] at h; rfl
 | .iface t v, b, h => by cases b <;> simp [V.beq] at h; rw [h.1, V.beq_eq _ _ h.2]
 | .nili, b, h => by cases b <;> simp [V.beq] at h; rfl
 | .agg a, b, h => by cases b <;> simp [V.beq] at h; rw [V.beqs_eq _ _ h]
 | .tup a, b, h => by cases b <;> simp [V.beq] at h; rw [V.beqs_eq _ _ h]
theorem V.beqs_eq : ∀ (a b : List V), V.beqs a b = true → a = b
 | [], [], _ => rfl
 | a :: x, b :: y, h => by
  simp only [V.beqs, Bool.and_eq_true] at h
  rw [V.beq_eq _ _ h.1, V.beqs_eq _ _ h.2]
 | [], _ :: _, h => by simp [V.beqs] at h
 | _ :: _, [], h => by simp [V.beqs] at h
end
section
variable {C : Cfg} {fr : Fr} {ops : Array Oper} {its : List It} {tm0 : T V} {d : DS} {I : Nat → Bool} {E : Env} {w0 w : World} {b : Frame} {tmps : Array Value} {df : List Deferred} {cs : List Frame}
theorem pend_done (ok : ItsOk C.P ops its) (sl : slotOk ops its = true) (dc : Closed its I) (v : INV C fr ops its tm0 d I E w0 w b tmps df cs) (lt : Lights C d I) {e : Ev} (he : e ∈ d.evs) (hI : I e.it.i = false)
  (hc : e.it.c < 3) (ha : ∀ j, e.it.anc.testBit j = true → I j = true) (k : List Item) (rest : List Nat) :
  ∃ E' w' v', E.le E' ∧ (∀ x, x < d.s.h.nxt → E' x ≠ E x → x = e.b ∧ e.k = 2) ∧ (∀ x, d.s.h.nxt ≤ x → E' x = none) ∧ INV C fr ops its tm0 d (ins I e.it.i) E' w0 w' b (putA tmps e.it.o.dst v') df cs ∧
   step C.P (lone (mkF b tmps (.inRegion ops (e.it.i :: rest) :: k) df) cs w) = .next (lone (mkF b (putA tmps e.it.o.dst v') (.inRegion ops rest :: k) df) cs w') := by
 have hop := ok.op e.it (v.good.mem e he)
 have tre := pend_TR ok sl dc v he hI ha
 obtain ⟨post, pre, heq⟩ := List.append_of_mem he
 obtain ⟨s1, s2, s3, s4, s5, s6⟩ := v.good.split post e pre heq
 have hk := v.kc e he hc
 have fin : ∀ (E' : Env) (w' : World) (v' : Value), E.le E' → (∀ x, x < d.s.h.nxt → E' x ≠ E x → x = e.b ∧ e.k = 2) → MR E' d.s.h w0 w' → AR E' e.v v' → INV C fr ops its tm0 d (ins I e.it.i) E' w0 w' b (putA tmps e.it.o.dst v') df cs := by
  intro E' w' v' hle hx m hv
  have hins : ∀ i, ins I e.it.i i = false → I i = false ∧ i ≠ e.it.i := by
   intro i hi; unfold ins at hi; split at hi
   ·cases hi
   ·rename_i q; exact ⟨hi, q⟩
  refine ⟨v.good, ⟨m, ins_TR ok sl dc v hle he hI hv, v.st.dr.mono fun _ _ => ADR.mono hle, v.st.uk.mono hle, v.st.fr.mono hle, v.st.gl.mono hle⟩, fun i hi => ?_, fun e' h' hh => ?_, v.kc, v.pur, fun e' h' hh hk2 => ?_⟩
  ·unfold ins at hi
   split at hi
   ·rename_i q; exact ⟨e, he, q.symm⟩
   ·exact v.sub i hi
  ·unfold ins; split
   ·rfl
   ·exact v.heavy e' h' hh
  ·obtain ⟨g1, g2⟩ := hins _ hh
   obtain ⟨ob, a1, a2, a3, a4⟩ := v.alloc e' h' g1 hk2
   refine ⟨ob, ?_, a2, a3, a4⟩
   by_cases q : E' e'.b = E e'.b
   ·rw [q]; exact a1
   ·exfalso
    obtain ⟨q1, q2⟩ := hx _ (v.good.bb e' h' hk2) q
    rw [heq] at h'
    rcases List.mem_append.1 h' with h' | h'
    ·obtain ⟨p1, p2, hp⟩ := List.append_of_mem h'
     have := (v.good.split p1 e' (p2 ++ e :: pre) (by rw [heq, hp]; simp)).2.2.2.1 e (by simp) q2
     omega
    ·cases h' with
     | head => exact g2 rfl
     | tail _ h' => have := s4 e' h' hk2; omega
 have notdef : b.roundOf = none ∨ ∀ c, e.it.o.op ≠ .defer c := by
  refine .inr fun c hcc => ?_
  have := ok.cl e.it (v.good.mem e he)
  rw [this] at hc
  simp [cls, hcc] at hc
 have fresh : ∀ x, d.s.h.nxt ≤ x → E x = none := fun x hx => (v.st.mr.fresh x hx).1
 by_cases k0 : e.k = 0
 ·obtain ⟨hw, hv⟩ := s5 k0
  have hw' := wanted_sound hw tre
  refine ⟨E, w, undef, Env.le_refl E, fun x _ hx => absurd rfl hx, fresh, fin E w undef (Env.le_refl E) (fun x _ hx => absurd rfl hx) v.st.mr (by rw [hv]; exact .tup [] #[] .nil), st_op_skip hop hw'⟩
 ·have hw' := wanted_sound (s6 k0) tre
  by_cases k1 : e.k = 1
  ·obtain ⟨v', h1, h2⟩ := light_sound (P := C.P) v.st.mr v.st.gl tre (lt e he hI k1)
   exact ⟨E, w, v', Env.le_refl E, fun x _ hx => absurd rfl hx, fresh, fin E w v' (Env.le_refl E) (fun x _ hx => absurd rfl hx) v.st.mr h2, st_val hop hw' notdef h1⟩
  ·have k2 : e.k = 2 := by omega
   obtain ⟨ob, a1, a2, a3, a4⟩ := v.alloc e he hI k2
   obtain ⟨v', cob, n, p, h1, h2, h3, h4⟩ := a4 E w tmps v.st.gl tre
   have hlt := v.good.bb e he k2
   have hle := upd_le (p := p) a1
   have m2 := place_sound (v.st.mr.drawn n) (p := p) hlt a1 a2 cob h2 (fun o ho => by
    have : d.s.h.get e.b = some o := ho
    rw [a3] at this; cases this; exact h3.mono hle)
   have hx : ∀ x, x < d.s.h.nxt → upd E e.b p x ≠ E x → x = e.b ∧ e.k = 2 := by
    intro x _ hx
    unfold upd at hx
    split at hx
    ·rename_i q; exact ⟨q, k2⟩
    ·exact absurd rfl hx
   refine ⟨upd E e.b p, _, v', hle, hx, fun x hx => ?_, fin _ _ v' hle hx m2 (h4 _ (by unfold upd; rw [if_pos rfl])), st_val hop hw' notdef h1⟩
   unfold upd; rw [if_neg (by omega)]; exact fresh x hx
end
end
end Go.AM
end
section
/- The abstract machine: regions whose order is drawn: phases and heavy items. -/
set_option linter.unusedVariables false
set_option linter.unusedSimpArgs false
namespace Go.AM
noncomputable section
open Go.RowKit
theorem TR.congr {E : Env} {nt : Nat} {tm tm' : T V} {tmps : Array Value} (h : ∀ t, tm'.get t = tm.get t) (r : TR E nt tm tmps) : TR E nt tm' tmps :=
 ⟨r.1, fun t v ht => r.2 t v (by rw [← h t]; exact ht)⟩
theorem alight_pure {P : Program} {gl : List Nat} {tm : T V} {h h' : H} {o : Oper} (hp : pureOp o = true) : alight P gl tm h o = alight P gl tm h' o := by
 obtain ⟨dst, op, ty, pos, after, guard⟩ := o
 cases op <;> first | rfl | (simp [pureOp] at hp; done) | (rename_i fn _ _; cases fn <;> rfl)
theorem pendOk_spec {C : Cfg} {h : H} {anc : Nat} : ∀ {evs : List Ev}, pendOk C h anc evs = true → (∀ e ∈ evs, e.k = 1 → pureOp e.it.o = true → ∀ h, alight C.P C.gl e.tmr h e.it.o = some e.v) → ∀ e ∈ evs, e.k = 1 → anc.testBit e.it.i = false → alight C.P C.gl e.tmr h e.it.o = some e.v
 | [], _, _, _, he => by cases he
 | x :: xs, hp, pu, e, he => by
  intro hk ha
  simp only [pendOk_c, Bool.and_eq_true, Bool.or_eq_true, Bool.not_eq_true'] at hp
  cases he with
  | tail _ he => exact pendOk_spec hp.2 (fun e he => pu e (List.mem_cons_of_mem _ he)) e he hk ha
  | head =>
   rcases hp.1 with ((h1 | h1) | h1) | h1
   ·rw [hk] at h1; cases h1
   ·exact pu x (List.mem_cons_self ..) hk h1 h
   ·rw [ha] at h1; cases h1
   ·split at h1
    ·rename_i v hv; rw [hv, V.beq_eq _ _ h1]
    ·cases h1
section
variable {C : Cfg} {fr : Fr} {ops : Array Oper} {its : List It} {tm0 : T V} {I : Nat → Bool} {E E0 : Env} {h0 : H} {w0 w : World} {b : Frame} {tmps : Array Value} {df : List Deferred} {cs : List Frame}
def Based (h0 : H) (d : DS) : Prop := ∀ e ∈ d.evs, e.k = 2 → h0.nxt ≤ e.b
theorem notin_I {d : DS} (v : INV C fr ops its tm0 d I E w0 w b tmps df cs) {it : It} (ht : turnOk d it = true) : I it.i = false := by
 cases hI : I it.i with
 | false => rfl
 | true =>
  obtain ⟨e, he, hi⟩ := v.sub _ hI
  have := (v.good.mask it.i).2 ⟨e, he, hi⟩
  rw [(turn_spec ht).2] at this; cases this
theorem item1_inv {d d' : DS} {it : It} (hit : it ∈ its) (hc : it.c < 3) (h : item1 C fr ops it d = some d') (v : INV C fr ops its tm0 d I E w0 w b tmps df cs) (x : Ext E0 h0 E d.s.h) (bs : Based h0 d) :
  INV C fr ops its tm0 d' I E w0 w b tmps df cs ∧ Ext E0 h0 E d'.s.h ∧ Based h0 d' ∧ d'.s.u = d.s.u := by
 have core : ∀ (k : Nat) (u : V) (h' : H), turnOk d it = true → Good fr ops its tm0 d' → d'.s.tm = d'.s.tm → d'.evs = ⟨it, AM.sub d.s.tm (tmpsOf ops it.o), k, u, d.s.h.nxt⟩ :: d.evs → d'.s.h = h' → d'.s.df = d.s.df → d'.s.u = d.s.u → k ≤ 2 →
   MR E h' w0 w → Ext E d.s.h E h' → (k = 1 → pureOp it.o = true → ∀ h, alight C.P C.gl (AM.sub d.s.tm (tmpsOf ops it.o)) h it.o = some u) → (k = 2 → ∃ ob, E d.s.h.nxt = none ∧ glim ≤ d.s.h.nxt ∧ h'.get d.s.h.nxt = some ob ∧ AllocR C.P C.gl fr.nt (AM.sub d.s.tm (tmpsOf ops it.o)) it.o d.s.h.nxt ob u) →
   INV C fr ops its tm0 d' I E w0 w b tmps df cs ∧ Ext E0 h0 E d'.s.h ∧ Based h0 d' ∧ d'.s.u = d.s.u := by
  intro k u h' ht g _ hev hh hdf hu hk m1 x1 hpu hal
  have hI := notin_I v ht
  refine ⟨⟨g, ?_, fun i hi => ?_, fun e he h3 => ?_, fun e he h3 => ?_, fun e he hk1 hp => ?_, fun e he hIe h2 => ?_⟩, ?_, fun e he h2 => ?_, hu⟩
  ·rw [hev]
   simp only [tmOf, hI, Bool.false_eq_true, if_false]
   exact ⟨by rw [show ({ d'.s with tm := tmOf I tm0 d.evs } : S).h = h' from hh]; exact m1, v.st.tr, by rw [show ({ d'.s with tm := tmOf I tm0 d.evs } : S).df = d.s.df from hdf]; exact v.st.dr, by rw [show ({ d'.s with tm := tmOf I tm0 d.evs } : S).u = d.s.u from hu]; exact v.st.uk, v.st.fr, v.st.gl⟩
  ·obtain ⟨e, he, q⟩ := v.sub i hi
   exact ⟨e, by rw [hev]; exact List.mem_cons_of_mem _ he, q⟩
  ·rw [hev] at he
   cases he with
   | head => exact absurd h3 (by simpa using hc)
   | tail _ he => exact v.heavy e he h3
  ·rw [hev] at he
   cases he with
   | head => exact hk
   | tail _ he => exact v.kc e he h3
  ·rw [hev] at he
   cases he with
   | head => exact hpu hk1 hp
   | tail _ he => exact v.pur e he hk1 hp
  ·rw [hev] at he
   rw [hh]
   cases he with
   | head => exact hal h2
   | tail _ he =>
    obtain ⟨ob, a1, a2, a3, a4⟩ := v.alloc e he hIe h2
    exact ⟨ob, a1, a2, (x1.ghost e.b (v.good.bb e he h2) a1).trans a3, a4⟩
  ·rw [hh]; exact x.trans x1
  ·rw [hev] at he
   cases he with
   | head => exact x.nxt
   | tail _ he => exact bs e he h2
 unfold item1 at h
 simp only at h
 split at h
 ·rename_i ht hw
  obtain ⟨g, tm, h1, h2⟩ := Good.add (k := 0) (v := undefV) (s := d.s) v.good hit ht h rfl (Nat.le_refl _) (fun q => by cases q) (fun _ => ⟨hw, rfl⟩) (fun q => absurd rfl q)
  exact core 0 undefV d.s.h ht g rfl (by rw [h2]) (by rw [h2]) (by rw [h2]) (by rw [h2]) (by omega) v.st.mr (Ext.refl _ _) (fun q => by cases q) (fun q => by cases q)
 ·rename_i ht hw
  split at h
  ·split at h
   ·rename_i u h' ha
    obtain ⟨bb, ob, hn, har⟩ := alloc_sound (nt := fr.nt) ha
    obtain ⟨m1, x1, hEb, hget, hlt, hgb, hbn⟩ := ghost_new v.st.mr hn
    have hbn' : bb = d.s.h.nxt := hbn
    obtain ⟨g, tm, h1, h2⟩ := Good.add (k := 2) (v := u) (s := { d.s with h := h' }) v.good hit ht h rfl x1.nxt (fun _ => by rw [← hbn']; exact hlt) (fun q => by cases q) (fun _ => hw)
    exact core 2 u h' ht g rfl (by rw [h2]) (by rw [h2]) (by rw [h2]) (by rw [h2]) (by omega) m1 x1 (fun q => by cases q) (fun _ => by
     rw [← hbn']; exact ⟨ob, hEb, hgb, hget, har⟩)
   ·cases h
  ·split at h
   ·rename_i u ha
    obtain ⟨g, tm, h1, h2⟩ := Good.add (k := 1) (v := u) (s := d.s) v.good hit ht h rfl (Nat.le_refl _) (fun q => by cases q) (fun q => by cases q) (fun _ => hw)
    exact core 1 u d.s.h ht g rfl (by rw [h2]) (by rw [h2]) (by rw [h2]) (by rw [h2]) (by omega) v.st.mr (Ext.refl _ _) (fun _ hp h => (alight_pure hp).trans ha) (fun q => by cases q)
   ·cases h
 ·cases h
theorem phase_inv {kk : Nat} : ∀ (l : List It) (d d' : DS), (∀ it ∈ l, it ∈ its) → phase C fr ops kk l d = some d' → INV C fr ops its tm0 d I E w0 w b tmps df cs → Ext E0 h0 E d.s.h → Based h0 d →
  INV C fr ops its tm0 d' I E w0 w b tmps df cs ∧ Ext E0 h0 E d'.s.h ∧ Based h0 d' ∧ d'.s.u = d.s.u
 | [], d, d', _, h, v, x, bs => by simp only [phase_n, phase_c] at h; cases h; exact ⟨v, x, bs, rfl⟩
 | it :: l, d, d', hl, h, v, x, bs => by
  simp only [phase_n, phase_c] at h
  split at h
  ·exact phase_inv l d d' (fun i hi => hl i (List.mem_cons_of_mem _ hi)) h v x bs
  ·rename_i hcond
   split at h
   ·rename_i d1 h1
    simp only [Bool.and_eq_true] at hcond
    have hc : it.c < 3 := by have := hcond.2; rwa [Nat.blt_eq] at this
    obtain ⟨v1, x1, b1, u1⟩ := item1_inv (hl it (List.mem_cons_self ..)) hc h1 v x bs
    obtain ⟨v2, x2, b2, u2⟩ := phase_inv l d1 d' (fun i hi => hl i (List.mem_cons_of_mem _ hi)) h v1 x1 b1
    exact ⟨v2, x2, b2, u2.trans u1⟩
   ·cases h
theorem clearD_get {its : List It} {tm : T V} {t : Nat} {u : V} (h : (clearD tm its).get t = some u) : tm.get t = some u ∧ ∀ it ∈ its, it.o.dst ≠ some t := by
 induction its generalizing tm with
 | nil => exact ⟨h, by simp⟩
 | cons it its ih =>
  simp only [clearD] at h
  split at h
  ·rename_i q hq
   obtain ⟨a, c⟩ := ih h
   rw [T.get_del] at a
   split at a
   ·cases a
   ·rename_i hne
    refine ⟨a, fun i hi => ?_⟩
    cases hi with
    | head => rw [hq]; intro z; exact hne (Option.some.inj z).symm
    | tail _ hi => exact c i hi
  ·rename_i hq
   obtain ⟨a, c⟩ := ih h
   refine ⟨a, fun i hi => ?_⟩
   cases hi with
   | head => rw [hq]; simp
   | tail _ hi => exact c i hi
theorem heavy_step (pr : PrOk C) {rec : Req → M Res} (S : Sound C rec) (ok : ItsOk C.P ops its) (sl : slotOk ops its = true) (dc : Closed its I) {d : DS} (v : INV C fr ops its tm0 d I E w0 w b tmps df cs) (x : Ext E0 h0 E d.s.h) (bs : Based h0 d)
  {it : It} (hit : it ∈ its) (hc : 3 ≤ it.c) (ha : ∀ j, it.anc.testBit j = true → I j = true) {r : HR} (h : heavy1 C rec fr ops its it d = .ok r) (k : List Item) (rest : List Nat) :
  match r with
  | .go d' => ∃ E' df' cs' w' v', Ext E0 h0 E' d'.s.h ∧ INV C fr ops its tm0 d' (ins I it.i) E' w0 w' b (putA tmps it.o.dst v') df' cs' ∧ Based h0 d' ∧ CS d.s.u cs cs' ∧ d'.s.u.isSome = d.s.u.isSome ∧ (∃ e, d'.evs = e :: d.evs ∧ e.it = it) ∧
    Steps C.P (lone (mkF b tmps (.inRegion ops (it.i :: rest) :: k) df) cs w) (lone (mkF b (putA tmps it.o.dst v') (.inRegion ops rest :: k) df') cs' w')
  | .stop ch s' => ∃ E' df' cs' w' todo ch', Ext E0 h0 E' s'.h ∧ StR C.gl E' fr s' b tmps df' cs' w0 w' ∧ CS d.s.u cs cs' ∧ s'.u.isSome = d.s.u.isSome ∧ All₂ (PER E') ch ch' ∧
    Steps C.P (lone (mkF b tmps (.inRegion ops (it.i :: rest) :: k) df) cs w) (lone { mkF b tmps todo df' with mode := .panicking ch' } cs' w') := by
 have hop := ok.op it hit
 have hl : ∀ e' ∈ d.evs, ∀ q, e'.it.o.dst = some q → q < lim := fun e' h' q hq => Nat.lt_of_lt_of_le (v.good.dst e' h' q hq) v.st.fr.nt
 have trm : turnOk d it = true → TR E fr.nt (AM.sub d.s.tm (tmpsOf ops it.o)) tmps := by
  intro ht
  refine ⟨v.st.tr.1, fun t u hu => ?_⟩
  obtain ⟨h1, h2⟩ := sub_get hu
  refine v.st.tr.2 t u ?_
  show (tmOf I tm0 d.evs).get t = some u
  rw [v.good.tm] at h2
  rw [← h2]
  refine tmOf_same d.evs hl fun e' h' hd => ?_
  have hne : it.i ≠ e'.it.i := fun q => by
   have := (v.good.mask it.i).2 ⟨e', h', q.symm⟩
   rw [(turn_spec ht).2] at this; cases this
  rcases slot_spec sl hit (v.good.mem e' h') hne hd (.inl h1) with g | g
  ·exact ha _ g
  ·exfalso
   obtain ⟨post, pre, heq⟩ := List.append_of_mem h'
   obtain ⟨e2, g1, g2⟩ := (v.good.split post e' pre heq).1 _ g
   have := (v.good.mask it.i).2 ⟨e2, by rw [heq]; simp [g1], g2⟩
   rw [(turn_spec ht).2] at this; cases this
 have fin : ∀ (d' : DS) (kk : Nat) (u : V) (s2 : AM.S) (E' : Env) (df' : List Deferred) (cs' : List Frame) (w' : World) (v' : Value), turnOk d it = true →
   d.add fr it (AM.sub d.s.tm (tmpsOf ops it.o)) kk u s2 = some d' → kk ≠ 1 → kk ≠ 2 → (kk = 0 → wantedA ops it.o (AM.sub d.s.tm (tmpsOf ops it.o)) = some false ∧ u = undefV) → (kk ≠ 0 → wantedA ops it.o (AM.sub d.s.tm (tmpsOf ops it.o)) = some true) →
   Ext E d.s.h E' s2.h → MR E' s2.h w0 w' → All₂ (ADR E') s2.df df' → UK E' s2.u b.kind cs' → AR E' u v' →
   Ext E0 h0 E' d'.s.h ∧ INV C fr ops its tm0 d' (ins I it.i) E' w0 w' b (putA tmps it.o.dst v') df' cs' ∧ Based h0 d' ∧ d'.s.u = s2.u ∧ (∃ e, d'.evs = e :: d.evs ∧ e.it = it) := by
  intro d' kk u s2 E' df' cs' w' v' ht hadd k1 k2 hz hnz x1 m1 dr uk hv
  have hadd' : d.add fr it (AM.sub d.s.tm (tmpsOf ops it.o)) kk u { s2 with tm := d.s.tm } = some d' := hadd
  obtain ⟨g, tm, h1, h2⟩ := Good.add v.good hit ht hadd' rfl x1.nxt (fun q => absurd q k2) hz hnz
  have hI := notin_I v ht
  have hev : d'.evs = ⟨it, AM.sub d.s.tm (tmpsOf ops it.o), kk, u, d.s.h.nxt⟩ :: d.evs := by rw [h2]
  have hh : d'.s.h = s2.h := by rw [h2]
  have hdf : d'.s.df = s2.df := by rw [h2]
  have hu : d'.s.u = s2.u := by rw [h2]
  have trI : TR E' fr.nt (tmOf (ins I it.i) tm0 d.evs) tmps := by
   refine TR.congr (fun t => ?_) (v.st.tr.mono x1.le)
   refine tmOf_same d.evs hl fun e' h' _ => ?_
   unfold ins
   rw [if_neg]
   intro q
   have := (v.good.mask it.i).2 ⟨e', h', q⟩
   rw [(turn_spec ht).2] at this; cases this
  refine ⟨by rw [hh]; exact x.trans x1, ⟨g, ?_, fun i hi => ?_, fun e he h3 => ?_, fun e he h3 => ?_, fun e he hk1 hp => ?_, fun e he hIe hk => ?_⟩, fun e he hk => ?_, hu, ⟨_, hev, rfl⟩⟩
  ·refine ⟨by rw [show ({ d'.s with tm := tmOf (ins I it.i) tm0 d'.evs } : AM.S).h = s2.h from hh]; exact m1, ?_, by rw [show ({ d'.s with tm := tmOf (ins I it.i) tm0 d'.evs } : AM.S).df = s2.df from hdf]; exact dr, by rw [show ({ d'.s with tm := tmOf (ins I it.i) tm0 d'.evs } : AM.S).u = s2.u from hu]; exact uk, v.st.fr.mono x1.le, v.st.gl.mono x1.le⟩
   show TR E' fr.nt (tmOf (ins I it.i) tm0 d'.evs) _
   rw [hev]
   simp only [tmOf]
   rw [if_pos (by unfold ins; rw [if_pos rfl])]
   refine put_TR (v := u) trI ?_ hv v.st.fr.nt
   unfold putE
   cases hd : it.o.dst with
   | none => rfl
   | some q =>
    rw [hd] at h1
    simp only [putT] at h1 ⊢
    split at h1
    ·rename_i hb; simp only [hb]
    ·cases h1
  ·unfold ins at hi
   split at hi
   ·rename_i q; exact ⟨_, by rw [hev]; exact List.mem_cons_self .., q.symm⟩
   ·obtain ⟨e, he, q⟩ := v.sub i hi; exact ⟨e, by rw [hev]; exact List.mem_cons_of_mem _ he, q⟩
  ·rw [hev] at he
   unfold ins; split
   ·rfl
   ·rename_i hne
    cases he with
    | head => exact absurd rfl hne
    | tail _ he => exact v.heavy e he h3
  ·rw [hev] at he
   cases he with
   | head => exact absurd hc (by simpa using h3)
   | tail _ he => exact v.kc e he h3
  ·rw [hev] at he
   cases he with
   | head => exact absurd hk1 k1
   | tail _ he => exact v.pur e he hk1 hp
  ·rw [hev] at he
   rw [hh]
   cases he with
   | head => exact absurd hk k2
   | tail _ he =>
    have hIe' : I e.it.i = false := by
     unfold ins at hIe; split at hIe
     ·cases hIe
     ·exact hIe
    obtain ⟨ob, a1, a2, a3, a4⟩ := v.alloc e he hIe' hk
    have hlt := v.good.bb e he hk
    exact ⟨ob, (x1.old _ hlt).trans a1, a2, (x1.ghost _ hlt a1).trans a3, a4⟩
  ·rw [hev] at he
   cases he with
   | head => exact absurd hk k2
   | tail _ he => exact bs e he hk
 have stm : turnOk d it = true → StR C.gl E fr { d.s with tm := AM.sub d.s.tm (tmpsOf ops it.o) } b tmps df cs w0 w := fun ht => ⟨v.st.mr, trm ht, v.st.dr, v.st.uk, v.st.fr, v.st.gl⟩
 unfold heavy1 at h
 simp only at h
 split at h
 ·rename_i ht hw
  split at h
  ·rename_i d' hadd
   cases h
   obtain ⟨y1, y2, y3, y4, y5⟩ := fin d' 0 undefV d.s E df cs w undef ht hadd (by omega) (by omega) (fun _ => ⟨hw, rfl⟩) (fun q => absurd rfl q) (Ext.refl _ _) v.st.mr v.st.dr v.st.uk (.tup [] #[] .nil)
   exact ⟨E, df, cs, w, undef, y1, y2, y3, CS.refl v.st.uk, by rw [y4], y5, .one (st_op_skip hop (wanted_sound hw (trm ht)))⟩
  ·cases h
 ·rename_i ht hw
  have hw' := wanted_sound hw (trm ht)
  have go : ∀ (u : V) (s2 : AM.S) (d' : DS), OpR C.P C.gl fr it.o { d.s with tm := AM.sub d.s.tm (tmpsOf ops it.o) } (.val u s2) → d.add fr it (AM.sub d.s.tm (tmpsOf ops it.o)) 3 u s2 = some d' →
    ∃ E' df' cs' w' v', Ext E0 h0 E' d'.s.h ∧ INV C fr ops its tm0 d' (ins I it.i) E' w0 w' b (putA tmps it.o.dst v') df' cs' ∧ Based h0 d' ∧ CS d.s.u cs cs' ∧ d'.s.u.isSome = d.s.u.isSome ∧ (∃ e, d'.evs = e :: d.evs ∧ e.it = it) ∧
    Steps C.P (lone (mkF b tmps (.inRegion ops (it.i :: rest) :: k) df) cs w) (lone (mkF b (putA tmps it.o.dst v') (.inRegion ops rest :: k) df') cs' w') := by
   intro u s2 d' hO hadd
   obtain ⟨_, E', df', cs', w', v', a1, a2, a3, a4, a5, a6⟩ := hO E w0 w b tmps df cs k ops it.i rest (stm ht) hop hw'
   obtain ⟨y1, y2, y3, y4, y5⟩ := fin d' 3 u s2 E' df' cs' w' v' ht hadd (by omega) (by omega) (fun q => by cases q) (fun _ => hw) a1 a2.mr a2.dr a2.uk a5
   exact ⟨E', df', cs', w', v', y1, y2, y3, a3, by rw [y4]; exact a4, y5, a6⟩
  split at h
  ·split at h
   ·rename_i h' hs
    split at h
    ·rename_i d' hadd
     cases h
     exact go undefV _ d' (store_opR (s := { d.s with tm := AM.sub d.s.tm (tmpsOf ops it.o) }) hs) hadd
    ·cases h
   ·cases h
  ·split at h
   ·cases h
   ·rename_i ch s hs
    cases h
    obtain ⟨_, E', df', cs', w', todo, ch', a1, a2, a3, a4, a5, a6⟩ := heavy_sound pr S hs E w0 w b tmps df cs k ops it.i rest (stm ht) hop hw'
    refine ⟨E', df', cs', w', todo, ch', x.trans a1, ⟨a2.mr, ⟨a2.tr.1, fun t u hu => ?_⟩, a2.dr, a2.uk, a2.fr, a2.gl⟩, a3, a4, a5, a6⟩
    obtain ⟨c1, c2⟩ := clearD_get hu
    rw [v.good.tm] at c1
    refine (v.st.tr.mono a1.le).2 t u ?_
    show (tmOf I tm0 d.evs).get t = some u
    rw [← c1]
    exact tmOf_same d.evs hl fun e' h' hd => absurd hd (c2 _ (v.good.mem e' h'))
   ·rename_i u s hs
    split at h
    ·rename_i d' hadd
     cases h
     exact go u s d' (heavy_sound pr S hs) hadd
    ·cases h
 ·cases h
end
end
end Go.AM
end
section
/- The abstract machine: regions whose order is drawn: the whole of them. -/
set_option linter.unusedVariables false
set_option linter.unusedSimpArgs false
namespace Go.AM
noncomputable section
open Go.RowKit
def after (C : Cfg) (rec : Req → M Res) (fr : Fr) (ops : Array Oper) (its : List It) : List It → Nat → DS → M Res
 | [], _, d => full ops.size d
 | it :: hs, k, d => match waits its it d with
  | false => .bad fr.fid "waits"
  | true => match heavy1 C rec fr ops its it d with
   | .bad f p => .bad f p
   | .ok (.stop ch s) => .ok (.x (.panic ch) s)
   | .ok (.go d) => phases C rec fr ops its (full ops.size) hs (k + 1) it.anc d
theorem phases_after {C : Cfg} {rec : Req → M Res} {fr : Fr} {ops : Array Oper} {its : List It} {hs : List It} {k anc : Nat} {d : DS} {r : Res} (h : phases C rec fr ops its (full ops.size) hs k anc d = .ok r) :
  ∃ d1, phase C fr ops k its d = some d1 ∧ pendOk C d1.s.h anc d1.evs = true ∧ after C rec fr ops its hs k d1 = .ok r := by
 unfold phases at h
 split at h
 ·cases h
 ·rename_i d1 h1
  split at h
  ·cases h
  ·rename_i h2
   refine ⟨d1, h1, h2, ?_⟩
   cases hs with
   | nil => exact h
   | cons it hs => exact h
theorem chain_head {x : It} {xs : List It} (h : chainOk (x :: xs) = true) : (∀ y ∈ xs, y.anc.testBit x.i = true) ∧ chainOk xs = true := by
 simp only [chainOk, Bool.and_eq_true, List.all_eq_true] at h
 exact h
theorem two_bit {n i : Nat} (h : i < n) : (2 ^ n - 1).testBit i = true := by rw [Nat.testBit_two_pow_sub_one]; exact decide_eq_true h
def lst (l : Array Bool) : Nat → Bool := fun j => l.getD j false
theorem lst_set {l : Array Bool} {i : Nat} (h : i < l.size) : lst (l.setIfInBounds i true) = ins (lst l) i := by
 funext j
 unfold lst ins
 by_cases q : j = i
 ·subst q
  rw [if_pos rfl]
  simp [Array.getD_eq_getD_getElem?, h]
 ·rw [if_neg q, getD_set_ne false (fun z => q z.symm)]
theorem getD_tf {l : Array Bool} {i : Nat} (h : i < l.size) : l.getD i true = l.getD i false := by
 simp [Array.getD_eq_getD_getElem?, h]
theorem after_heavy1 {C : Cfg} {rec : Req → M Res} {fr : Fr} {ops : Array Oper} {its : List It} {hd : It} {hs : List It} {k : Nat} {d : DS} {r : Res} (h : after C rec fr ops its (hd :: hs) k d = .ok r) :
  turnOk d hd = true ∧ waits its hd d = true ∧ ((∃ ch s, heavy1 C rec fr ops its hd d = .ok (.stop ch s) ∧ r = .x (.panic ch) s) ∨ ∃ d', heavy1 C rec fr ops its hd d = .ok (.go d') ∧ phases C rec fr ops its (full ops.size) hs (k + 1) hd.anc d' = .ok r) := by
 simp only [after] at h
 split at h
 ·cases h
 ·rename_i hw
  have ht : ∀ r, heavy1 C rec fr ops its hd d = .ok r → turnOk d hd = true := by
   intro r hr
   unfold heavy1 at hr
   simp only at hr
   split at hr
   ·assumption
   ·assumption
   ·cases hr
  split at h
  ·cases h
  ·rename_i ch s hh
   cases h
   exact ⟨ht _ hh, hw, .inl ⟨ch, s, hh, rfl⟩⟩
  ·rename_i d' hh
   exact ⟨ht _ hh, hw, .inr ⟨d', hh, h⟩⟩
theorem heavy1_turn {C : Cfg} {rec : Req → M Res} {fr : Fr} {ops : Array Oper} {its : List It} {hd : It} {d : DS} {r : HR} (hr : heavy1 C rec fr ops its hd d = .ok r) : turnOk d hd = true := by
 unfold heavy1 at hr
 simp only at hr
 split at hr
 ·assumption
 ·assumption
 ·cases hr
structure Eqv (s1 s2 : AM.S) : Prop where
 tm : ∀ t, s2.tm.get t = s1.tm.get t
 df : s2.df = s1.df
 u : s2.u = s1.u
 nxt : s2.h.nxt = s1.h.nxt
 ob : ∀ b, s2.h.get b = s1.h.get b
theorem Eqv.refl (s : AM.S) : Eqv s s := ⟨fun _ => rfl, rfl, rfl, rfl, fun _ => rfl⟩
theorem Eqv.ext {s1 s2 : AM.S} (e : Eqv s1 s2) {E0 E : Env} {h0 : H} (x : Ext E0 h0 E s1.h) : Ext E0 h0 E s2.h :=
 ⟨x.le, x.old, by rw [e.nxt]; exact x.nxt, fun b hb he => (e.ob b).trans (x.ghost b hb he)⟩
theorem Eqv.mr {s1 s2 : AM.S} (e : Eqv s1 s2) {E : Env} {w0 w : World} (m : MR E s1.h w0 w) : MR E s2.h w0 w :=
 ⟨m.below, fun b hb => by rw [e.ob b]; exact m.fresh b (by rw [← e.nxt]; exact hb), by rw [e.nxt]; exact m.glo, by rw [e.nxt]; exact m.lim, fun b o p hb hp => m.obj b o p (by rw [← e.ob b]; exact hb) hp, fun b o hb ho => m.glb b o hb (by rw [← e.ob b]; exact ho), m.own, m.lt,
  fun b b' o o' p p' hn hb hb' hp hp' => m.apart b b' o o' p p' hn (by rw [← e.ob b]; exact hb) (by rw [← e.ob b']; exact hb') hp hp'⟩
theorem Eqv.str {s1 s2 : AM.S} (e : Eqv s1 s2) {gl : List Nat} {E : Env} {fr : Fr} {b : Frame} {tmps : Array Value} {df : List Deferred} {cs : List Frame} {w0 w : World} (st : StR gl E fr s1 b tmps df cs w0 w) : StR gl E fr s2 b tmps df cs w0 w :=
 ⟨e.mr st.mr, TR.congr e.tm st.tr, by rw [e.df]; exact st.dr, by rw [e.u]; exact st.uk, st.fr, st.gl⟩
inductive Aft (C : Cfg) (rec : Req → M Res) (fr : Fr) (ops : Array Oper) (its : List It) (x : X) : List It → Nat → DS → AM.S → Prop where
 | nil {k : Nat} {d : DS} {s' : AM.S} (h : full ops.size d = .ok (.x x s')) : Aft C rec fr ops its x [] k d s'
 | step {hd : It} {tl : List It} {k : Nat} {d d' d1 : DS} {s' : AM.S} (ho : ∀ y ∈ tl, y.anc.testBit hd.i = true) (hw : waits its hd d = true) (hh : heavy1 C rec fr ops its hd d = .ok (.go d')) (p1 : phase C fr ops (k + 1) its d' = some d1)
   (p2 : pendOk C d1.s.h hd.anc d1.evs = true) (next : Aft C rec fr ops its x tl (k + 1) d1 s') : Aft C rec fr ops its x (hd :: tl) k d s'
 | stop {hd : It} {tl : List It} {k : Nat} {d : DS} {ch : List PE} {s' : AM.S} (ho : ∀ y ∈ tl, y.anc.testBit hd.i = true) (hw : waits its hd d = true) (hh : heavy1 C rec fr ops its hd d = .ok (.stop ch s')) (hx : x = .panic ch) : Aft C rec fr ops its x (hd :: tl) k d s'
 | fork {a b : It} {k : Nat} {d d' d1 e' e1 : DS} {s' s2 : AM.S} (wa : waits its a d = true) (wb : waits its b d = true) (ha : heavy1 C rec fr ops its a d = .ok (.go d')) (p1 : phase C fr ops (k + 1) its d' = some d1)
   (p2 : pendOk C d1.s.h a.anc d1.evs = true) (hb : heavy1 C rec fr ops its b d = .ok (.go e')) (q1 : phase C fr ops (k + 1) its e' = some e1) (q2 : pendOk C e1.s.h b.anc e1.evs = true)
   (na : Aft C rec fr ops its x [b] (k + 1) d1 s') (nb : Aft C rec fr ops its x [a] (k + 1) e1 s2) (eq : Eqv s2 s') : Aft C rec fr ops its x [a, b] k d s'
theorem Aft.turn {C : Cfg} {rec : Req → M Res} {fr : Fr} {ops : Array Oper} {its : List It} {x : X} {hd : It} {tl : List It} {k : Nat} {d : DS} {s' : AM.S} (h : Aft C rec fr ops its x (hd :: tl) k d s') : turnOk d hd = true ∧ waits its hd d = true := by
 cases h with
 | step _ hw hh _ _ _ => exact ⟨heavy1_turn hh, hw⟩
 | stop _ hw hh _ => exact ⟨heavy1_turn hh, hw⟩
 | fork wa _ ha _ _ _ _ _ _ _ _ => exact ⟨heavy1_turn ha, wa⟩
theorem Aft.of_chain {C : Cfg} {rec : Req → M Res} {fr : Fr} {ops : Array Oper} {its : List It} {x : X} {s' : AM.S} : ∀ {hs : List It} {k : Nat} {d : DS}, chainOk hs = true → after C rec fr ops its hs k d = .ok (.x x s') → Aft C rec fr ops its x hs k d s'
 | [], _, _, _, h => .nil h
 | hd :: tl, k, d, ch, h => by
  obtain ⟨c1, c2⟩ := chain_head ch
  obtain ⟨ht, hw, hcase⟩ := after_heavy1 h
  rcases hcase with ⟨pch, s2, hh, hr⟩ | ⟨d', hh, hph⟩
  ·cases hr; exact .stop c1 hw hh rfl
  ·obtain ⟨d1, p1, p2, p3⟩ := phases_after hph
   exact .step c1 hw hh p1 p2 (Aft.of_chain c2 p3)
theorem finish_sound {C : Cfg} {fr : Fr} {ops : Array Oper} {its : List It} {tm0 : T V} (ok : ItsOk C.P ops its) {rec : Req → M Res} (k : List Item) {E0 : Env} {h0 : H} {w0 : World} {b : Frame} {x : X} {s' : AM.S}
  (listed : Array Bool) (hs : List It) (kk : Nat) (d : DS) (E : Env) (w : World) (tmps : Array Value) (df : List Deferred) (cs : List Frame)
  (v : INV C fr ops its tm0 d (lst listed) E w0 w b tmps df cs) (hhs : ∀ it ∈ hs, it ∈ its ∧ 3 ≤ it.c) (ex : Ext E0 h0 E d.s.h) (h : Aft C rec fr ops its x hs kk d s') (hf : ∀ i, i < ops.size → lst listed i = true) :
  ∃ E' tmps' df' cs' w', Ext E0 h0 E' s'.h ∧ StR C.gl E' fr s' b tmps' df' cs' w0 w' ∧ CS d.s.u cs cs' ∧ s'.u.isSome = d.s.u.isSome ∧
   Arr C.P E' x (lone (mkF b tmps (.inRegion ops [] :: k) df) cs w) b k tmps' df' cs' w' := by
 have hin : ∀ it ∈ its, lst listed it.i = true := fun it hit => hf _ (Array.getElem?_eq_some_iff.1 (ok.op it hit)).1
 cases hs with
 | cons hd tl =>
  have := notin_I v h.turn.1
  rw [hin hd (hhs hd (List.mem_cons_self ..)).1] at this; cases this
 | nil =>
  cases h with
  | nil h =>
  simp only [full] at h
  split at h
  ·cases h
   refine ⟨E, tmps, df, cs, w, ex, ⟨v.st.mr, ?_, v.st.dr, v.st.uk, v.st.fr, v.st.gl⟩, CS.refl v.st.uk, rfl, .one st_end⟩
   refine TR.congr (fun t => ?_) v.st.tr
   show d.s.tm.get t = (tmOf (lst listed) tm0 d.evs).get t
   rw [v.good.tm]
   exact tmOf_same d.evs (fun e' h' q hq => Nat.lt_of_lt_of_le (v.good.dst e' h' q hq) v.st.fr.nt) fun e' h' _ => (hin _ (v.good.mem e' h')).symm
  ·cases h
section
variable {C : Cfg} {fr : Fr} {ops : Array Oper} {its : List It} {tm0 : T V}
theorem tail_sound (pr : PrOk C) {rec : Req → M Res} (S : Sound C rec) (ok : ItsOk C.P ops its) (sl : slotOk ops its = true) (bk : backOk its = true) (k : List Item) {E0 : Env} {h0 : H} {w0 : World} {b : Frame} {x : X} :
  ∀ (fuel t : Nat) (listed : Array Bool) (hs : List It) (kk : Nat) (d : DS) (s' : AM.S) (E : Env) (w : World) (tmps : Array Value) (df : List Deferred) (cs : List Frame),
   listed.size = ops.size → listed.toList.count false ≤ fuel → INV C fr ops its tm0 d (lst listed) E w0 w b tmps df cs → Lights C d (lst listed) → Closed its (lst listed) →
   (∀ it ∈ hs, it ∈ its ∧ 3 ≤ it.c) → (∀ it ∈ its, 3 ≤ it.c → it ∈ hs ∨ ∃ e ∈ d.evs, e.it.i = it.i) →
   Ext E0 h0 E d.s.h → Based h0 d → Aft C rec fr ops its x hs kk d s' →
   ∃ E' tmps' df' cs' w', Ext E0 h0 E' s'.h ∧ StR C.gl E' fr s' b tmps' df' cs' w0 w' ∧ CS d.s.u cs cs' ∧ s'.u.isSome = d.s.u.isSome ∧
    Arr C.P E' x (lone (mkF b tmps (.inRegion ops (Region.linearise.go .any ops fuel t listed []) :: k) df) cs w) b k tmps' df' cs' w' := by
 intro fuel
 induction fuel with
 | zero =>
  intro t listed hs kk d s' E w tmps df cs hsz hcnt v lt dc hhs hall ex bs h
  exact (finish_sound ok k listed hs kk d E w tmps df cs v hhs ex h (fun i hi => by
   have h0 : listed.toList.count false = 0 := by omega
   rw [List.count_eq_zero] at h0
   unfold lst
   have hi' : i < listed.size := by omega
   simp only [Array.getD_eq_getD_getElem?, Array.getElem?_eq_getElem hi', Option.getD_some]
   cases hq : listed[i] with
   | true => rfl
   | false => exact absurd (hq ▸ Array.getElem_mem_toList hi') h0))
 | succ fuel ih =>
  intro t listed hs kk d s' E w tmps df cs hsz hcnt v lt dc hhs hall ex bs h
  simp only [Region.linearise.go]
  change ∃ E' tmps' df' cs' w', _ ∧ _ ∧ _ ∧ _ ∧ Arr C.P E' x (lone (mkF b tmps (.inRegion ops (match (Region.ready .any ops listed)[t % (Region.ready .any ops listed).length]? with
   | some i => Region.linearise.go .any ops fuel (t / (Region.ready .any ops listed).length) (listed.setIfInBounds i true) [i]
   | none => [].reverse) :: k) df) cs w) b k tmps' df' cs' w'
  cases hi : (Region.ready .any ops listed)[t % (Region.ready .any ops listed).length]? with
  | none =>
   have hnil : Region.ready .any ops listed = [] := by
    cases hr : Region.ready .any ops listed with
    | nil => rfl
    | cons x xs =>
     rw [hr] at hi
     have hlt : t % (x :: xs).length < (x :: xs).length := Nat.mod_lt _ (by simp)
     simp at hi
     simp at hlt
     omega
   have hfull : ∀ (n i : Nat), i < n → i < ops.size → lst listed i = true := by
    intro n
    induction n with
    | zero => intro i hn; omega
    | succ n ihn =>
     intro i hn his
     cases hq : lst listed i with
     | true => rfl
     | false =>
      exfalso
      obtain ⟨it, hit, hii⟩ := ok.all i his
      have : i ∈ Region.ready .any ops listed := by
       rw [mem_ready]
       refine ⟨by rw [getD_tf (by omega)]; exact hq, it.o, by rw [← hii]; exact ok.op it hit, fun e he hb => ?_⟩
       have hlt : e.on < it.i := by
        have := List.all_eq_true.1 (List.all_eq_true.1 bk it hit) e (by simpa using he)
        rw [hb] at this
        simpa [Nat.blt_eq] using this
       exact ihn e.on (by omega) (by omega)
      rw [hnil] at this; cases this
   exact finish_sound ok k listed hs kk d E w tmps df cs v hhs ex h (fun i hi => hfull (i + 1) i (Nat.lt_succ_self _) hi)
  | some i =>
   simp only []
   rw [linearise_go_acc, List.reverse_singleton, List.singleton_append]
   generalize t / (Region.ready .any ops listed).length = t'
   obtain ⟨r1, o, r2, r3⟩ := mem_ready.1 (List.mem_of_getElem? hi)
   have his : i < ops.size := (Array.getElem?_eq_some_iff.1 r2).1
   have hil : i < listed.size := by omega
   have hIi : lst listed i = false := by rw [getD_tf hil] at r1; exact r1
   have hset := lst_set hil
   have hsz' : (listed.setIfInBounds i true).size = ops.size := by rw [Array.size_setIfInBounds]; exact hsz
   have hcnt' : (listed.setIfInBounds i true).toList.count false ≤ fuel := by
    rw [Array.toList_setIfInBounds, List.count_set (by simpa using hil)]
    have hq : listed.toList[i]'(by simpa using hil) = false := by
     unfold lst at hIi
     simpa [Array.getD_eq_getD_getElem?, hil] using hIi
    rw [hq]
    simp only [BEq.rfl, if_true]
    have : ((true : Bool) == false) = false := rfl
    rw [this]
    simp only [Bool.false_eq_true, if_false]
    omega
   have edges : ∀ it ∈ its, it.i = i → ∀ e ∈ it.o.after.toList, Region.binds .any e = true → lst listed e.on = true := by
    intro it hit hii e he hb
    have := ok.op it hit
    rw [hii, r2] at this
    have e1 := Option.some.inj this
    exact r3 e (by rw [e1]; simpa using he) hb
   have ancs : ∀ it ∈ its, it.i = i → ∀ j, it.anc.testBit j = true → lst listed j = true := fun it hit hii => anc_in ok dc (it.i + 1) it (Nat.lt_succ_self _) hit (edges it hit hii)
   have dc' : Closed its (lst (listed.setIfInBounds i true)) := by
    rw [hset]
    intro it hit hI e he hb
    unfold ins at hI ⊢
    split
    ·rfl
    ·split at hI
     ·rename_i q; exact edges it hit q e he hb
     ·exact dc it hit hI e he hb
   have noh : ∀ hd tl, hs = hd :: tl → lst listed hd.i = false := by
    intro hd tl heq
    rw [heq] at h
    exact notin_I v h.turn.1
   obtain ⟨it, hit, hii⟩ := ok.all i his
   by_cases hc : it.c < 3
   ·-- it was run before
    have hm : d.mask.testBit i = true := by
     cases hs with
     | nil =>
      cases h with
      | nil h =>
      simp only [full] at h
      split at h
      ·rename_i hq
       rw [Nat.eq_of_beq_eq_true hq]; exact two_bit his
      ·cases h
     | cons hd tl =>
      have hw := h.turn.2
      have := List.all_eq_true.1 hw it hit
      simp only [Bool.or_eq_true] at this
      rcases this with (q | q) | q
      ·exfalso; have := Nat.le_of_ble_eq_true q; omega
      ·rw [← hii]; exact q
      ·exfalso
       have := ancs it hit hii _ q
       rw [noh hd tl rfl] at this; cases this
    obtain ⟨e, he, hei⟩ := (v.good.mask i).1 hm
    have hec : e.it.c < 3 := by
     rcases ok.uniq e.it (v.good.mem e he) it hit (by rw [hei, hii]) with q | ⟨_, _, q⟩
     ·rw [q]; exact hc
     ·rw [q]; exact hc
    have hst := pend_done (w := w) ok sl dc v lt he (by rw [hei]; exact hIi) hec (ancs e.it (v.good.mem e he) hei) k (Region.linearise.go .any ops fuel t' (listed.setIfInBounds i true) [])
    obtain ⟨E1, w1, v1, a1, a2, a3, a4, a5⟩ := hst
    rw [hei] at a4 a5
    rw [← hset] at a4
    have ex1 : Ext E0 h0 E1 d.s.h := by
     refine ⟨ex.le.trans a1, fun y hy => ?_, ex.nxt, ex.ghost⟩
     rw [← ex.old y hy]
     by_cases q : E1 y = E y
     ·exact q
     ·obtain ⟨q1, q2⟩ := a2 y (Nat.lt_of_lt_of_le hy ex.nxt) q
      have := bs e he q2
      omega
    obtain ⟨E', tmps', df', cs', w', b1, b2, b3, b4, b5⟩ := ih t' (listed.setIfInBounds i true) hs kk d s' E1 w1 _ df cs hsz' hcnt' a4
     (by
      rw [hset]
      intro e' he' hI' hk'
      unfold ins at hI'
      split at hI'
      ·cases hI'
      ·exact lt e' he' hI' hk') dc' hhs hall ex1 bs h
    exact ⟨E', tmps', df', cs', w', b1, b2, b3, b4, Arr.of (.one a5) b5⟩
   ·-- a heavy one: the next
    have hc3 : 3 ≤ it.c := by omega
    have goOn : ∀ (tl : List It) (d' d1 : DS) (s1 : AM.S), heavy1 C rec fr ops its it d = .ok (.go d') → phase C fr ops (kk + 1) its d' = some d1 → pendOk C d1.s.h it.anc d1.evs = true → Aft C rec fr ops its x tl (kk + 1) d1 s1 →
      (∀ y ∈ tl, y ∈ its ∧ 3 ≤ y.c) → (∀ y ∈ hs, y = it ∨ y ∈ tl) →
      ∃ E' tmps' df' cs' w', Ext E0 h0 E' s1.h ∧ StR C.gl E' fr s1 b tmps' df' cs' w0 w' ∧ CS d.s.u cs cs' ∧ s1.u.isSome = d.s.u.isSome ∧
       Arr C.P E' x (lone (mkF b tmps (.inRegion ops (i :: Region.linearise.go .any ops fuel t' (listed.setIfInBounds i true) []) :: k) df) cs w) b k tmps' df' cs' w' := by
     intro tl d' d1 s1 hh p1 p2 p3 htl hhs2
     have hst := heavy_step (r := .go d') (w := w) pr S ok sl dc v ex bs hit hc3 (ancs it hit hii) hh k (Region.linearise.go .any ops fuel t' (listed.setIfInBounds i true) [])
     rw [hii] at hst
     obtain ⟨E1, df1, cs1, w1, v1, a1, a2, a3, a4, a5, ⟨e1, ae1, ae2⟩, a6⟩ := hst
     obtain ⟨v2, x2, bs2, u2⟩ := phase_inv its d' d1 (fun _ h => h) p1 a2 a1 a3
     rw [← hset] at v2
     have hsub : ∀ j, lst (listed.setIfInBounds i true) j = true → ∃ e' ∈ d1.evs, e'.it.i = j := v2.sub
     have hin2 : ∀ j, lst listed j = true → lst (listed.setIfInBounds i true) j = true := by
      intro j hj; rw [hset]; unfold ins; split
      ·rfl
      ·exact hj
     have hini : lst (listed.setIfInBounds i true) i = true := by rw [hset]; unfold ins; rw [if_pos rfl]
     obtain ⟨E', tmps', df', cs', w', b1, b2, b3, b4, b5⟩ := ih t' (listed.setIfInBounds i true) tl (kk + 1) d1 s1 E1 w1 _ df1 cs1 hsz' hcnt' v2
      (by
       intro e' he' hI' hk'
       refine pendOk_spec p2 v2.pur e' he' hk' ?_
       cases hq : it.anc.testBit e'.it.i with
       | false => rfl
       | true =>
        have := hin2 _ (ancs it hit hii _ hq)
        rw [hI'] at this; cases this)
      dc' htl
      (by
       intro y hy hyc
       rcases hall y hy hyc with q | ⟨e, he, hei⟩
       ·rcases hhs2 y q with rfl | q
        ·exact .inr (by rw [hii]; exact hsub i hini)
        ·exact .inl q
       ·refine .inr (hsub _ (hin2 _ ?_))
        rw [← hei]
        refine v.heavy e he ?_
        rcases ok.uniq e.it (v.good.mem e he) y hy hei with q | ⟨_, _, q⟩
        ·rw [q]; exact hyc
        ·rw [q]; exact hyc)
      x2 bs2 p3
     exact ⟨E', tmps', df', cs', w', b1, b2, CS.trans a4 (u2 ▸ b3) (by rw [u2] at *; exact a5), b4.trans (by rw [u2]; exact a5), Arr.of a6 b5⟩
    rcases hall it hit hc3 with hin | ⟨e, he, hei⟩
    ·cases h with
     | nil h => cases hin
     | @step hd tl _ _ d' d1 _ c1 hw hh p1 p2 next =>
      have hhd : it = hd := by
       cases hin with
       | head => rfl
       | tail _ hin =>
        exfalso
        have := ancs it hit hii _ (c1 it hin)
        rw [noh hd tl rfl] at this; cases this
      subst hhd
      exact goOn tl d' d1 s' hh p1 p2 next (fun y hy => hhs y (List.mem_cons_of_mem _ hy)) (fun y hy => by
       cases hy with
       | head => exact .inl rfl
       | tail _ q => exact .inr q)
     | @stop hd tl _ _ ch _ c1 hw hh hx =>
      have hhd : it = hd := by
       cases hin with
       | head => rfl
       | tail _ hin =>
        exfalso
        have := ancs it hit hii _ (c1 it hin)
        rw [noh hd tl rfl] at this; cases this
      subst hhd
      subst hx
      have hst := heavy_step (r := .stop ch s') (w := w) pr S ok sl dc v ex bs hit hc3 (ancs it hit hii) hh k (Region.linearise.go .any ops fuel t' (listed.setIfInBounds i true) [])
      rw [hii] at hst
      obtain ⟨E', df', cs', w', todo, ch', a1, a2, a3, a4, a5, a6⟩ := hst
      exact ⟨E', tmps, df', cs', w', a1, a2, a3, a4, todo, ch', a5, a6⟩
     | @fork a b2 _ _ d' d1 e' e1 _ s2 wa wb ha p1 p2 hb q1 q2 na nb eq =>
      have hab : it = a ∨ it = b2 := by
       cases hin with
       | head => exact .inl rfl
       | tail _ hin => cases hin with
        | head => exact .inr rfl
        | tail _ hin => cases hin
      rcases hab with rfl | rfl
      ·exact goOn [b2] d' d1 s' ha p1 p2 na (fun y hy => hhs y (List.mem_cons_of_mem _ hy)) (fun y hy => by
        cases hy with
        | head => exact .inl rfl
        | tail _ q => exact .inr q)
      ·obtain ⟨E', tmps', df', cs', w', b1, b2, b3, b4, b5⟩ := goOn [a] e' e1 s2 hb q1 q2 nb (fun y hy => by
        have : y = a := by simpa using hy
        subst this; exact hhs y (List.mem_cons_self ..)) (fun y hy => by
        cases hy with
        | head => exact .inr (List.mem_cons_self ..)
        | tail _ q => cases q with
         | head => exact .inl rfl
         | tail _ q => cases q)
       exact ⟨E', tmps', df', cs', w', eq.ext b1, eq.str b2, b3, by rw [eq.u]; exact b4, b5⟩
    ·have := v.heavy e he (by
      rcases ok.uniq e.it (v.good.mem e he) it hit hei with q | ⟨_, _, q⟩
      ·rw [q]; exact hc3
      ·rw [q]; exact hc3)
     rw [hei, hii, hIi] at this; cases this
end
theorem phase_late {C : Cfg} {fr : Fr} {ops : Array Oper} {k j : Nat} (hj : k < j) : ∀ {l : List It} {d : DS}, (∀ it ∈ l, 3 ≤ it.c ∨ it.lo ≤ k) → phase C fr ops j l d = some d
 | [], d, _ => rfl
 | it :: l, d, h => by
  simp only [phase_n, phase_c]
  have hb : (Nat.beq it.lo j && Nat.blt it.c 3) = false := by
   rw [Bool.and_eq_false_iff]
   rcases h it (List.mem_cons_self ..) with q | q
   ·right
    cases hq : Nat.blt it.c 3 with
    | false => rfl
    | true => rw [Nat.blt_eq] at hq; omega
   ·left
    cases hq : Nat.beq it.lo j with
    | false => rfl
    | true => have := Nat.eq_of_beq_eq_true hq; omega
  rw [hb]
  exact phase_late hj fun y hy => h y (List.mem_cons_of_mem _ hy)
theorem store_get {P : Program} {gl : List Nat} {tm : T V} {o : Oper} {x a n : Nat} {h h1 : H} (hr : rdCells P gl tm o = some (x, a, n)) (hs : astore P gl tm h o = some h1) :
  ∃ ob, h1 = h.put x ob ∧ ∀ h2 h3, h2.get x = h.get x → astore P gl tm h2 o = some h3 → h3 = h2.put x ob := by
 unfold astore at hs
 unfold rdCells at hr
 split at hs
 ·rename_i t ad v hop
  rw [hop] at hr
  simp only at hr
  split at hs
  ·rename_i b off v n' e1 e2 e3
   rw [e1, e3] at hr
   cases hr
   split at hs
   ·rename_i hl
    unfold H.wrN at hs
    split at hs
    ·rename_i opn cs hg
     split at hs
     ·cases hs
      refine ⟨_, rfl, fun h2 h3 e hs2 => ?_⟩
      unfold astore at hs2
      rw [hop] at hs2
      simp only [e1, e2, e3, if_pos hl] at hs2
      unfold H.wrN at hs2
      rw [e, hg] at hs2
      simp only at hs2
      split at hs2
      all_goals first | (cases hs2; rfl) | cases hs2
     ·cases hs
    ·cases hs
   ·cases hs
  ·cases hs
 ·cases hs
theorem heavy1_store {C : Cfg} {rec : Req → M Res} {fr : Fr} {ops : Array Oper} {its : List It} {it : It} {d d1 : DS} (hg : it.o.guard = none) (hd : it.o.dst = none) (hc : it.c = 3) (h : heavy1 C rec fr ops its it d = .ok (.go d1)) :
  ∃ h1, astore C.P C.gl (AM.sub d.s.tm (tmpsOf ops it.o)) d.s.h it.o = some h1 ∧ d1.s = { d.s with h := h1 } := by
 have hw : wantedA ops it.o (AM.sub d.s.tm (tmpsOf ops it.o)) = some true := by unfold wantedA; rw [hg]
 unfold heavy1 at h
 simp only [hw] at h
 split at h
 ·rename_i e; cases e
 ·rw [hc] at h
  simp only at h
  split at h
  ·rename_i h1 hs
   split at h
   ·rename_i d' hadd
    cases h
    refine ⟨h1, hs, ?_⟩
    unfold DS.add at hadd
    rw [hd] at hadd
    simp only [putT] at hadd
    cases hadd
    rfl
   ·cases h
  ·cases h
 ·cases h
theorem stores_eqv {C : Cfg} {rec : Req → M Res} {fr : Fr} {ops : Array Oper} {its : List It} {a b : It} {d d1 d2 c1 c2 : DS} (ht : twoStores C ops a b d = true) (ha : heavy1 C rec fr ops its a d = .ok (.go d1)) (hb : heavy1 C rec fr ops its b d1 = .ok (.go d2))
  (hb' : heavy1 C rec fr ops its b d = .ok (.go c1)) (ha' : heavy1 C rec fr ops its a c1 = .ok (.go c2)) : Eqv c2.s d2.s := by
 unfold twoStores at ht
 split at ht
 ·rename_i ga gb da db
  split at ht
  ·rename_i x _ _ y _ _ rx ry
   simp only [Bool.and_eq_true, Bool.not_eq_true'] at ht
   obtain ⟨⟨⟨⟨ca, cb⟩, hne⟩, hx⟩, hy⟩ := ht
   have ca := Nat.eq_of_beq_eq_true ca
   have cb := Nat.eq_of_beq_eq_true cb
   have hne : x ≠ y := by rintro rfl; rw [Nat.beq_refl] at hne; cases hne
   have hx : x < AM.lim := by rwa [Nat.blt_eq] at hx
   have hy : y < AM.lim := by rwa [Nat.blt_eq] at hy
   obtain ⟨h1, s1, q1⟩ := heavy1_store ga da ca ha
   obtain ⟨h2, s2, q2⟩ := heavy1_store gb db cb hb
   obtain ⟨g1, t1, r1⟩ := heavy1_store gb db cb hb'
   obtain ⟨g2, t2, r2⟩ := heavy1_store ga da ca ha'
   have e1 : d1.s.tm = d.s.tm := by rw [q1]
   have e2 : d1.s.h = h1 := by rw [q1]
   rw [e1, e2] at s2
   have f1 : c1.s.tm = d.s.tm := by rw [r1]
   have f2 : c1.s.h = g1 := by rw [r1]
   rw [f1, f2] at t2
   obtain ⟨oa, p1, p2⟩ := store_get rx s1
   obtain ⟨ob, p3, p4⟩ := store_get ry t1
   have k1 : h2 = h1.put y ob := p4 h1 h2 (by rw [p1, H.get_put hx, if_neg (fun e => hne e.symm)]) s2
   have k2 : g2 = g1.put x oa := p2 g1 g2 (by rw [p3, H.get_put hy, if_neg hne]) t2
   rw [q2, q1, r2, r1]
   refine ⟨fun _ => rfl, rfl, rfl, ?_, fun c => ?_⟩
   ·show h2.nxt = g2.nxt
    rw [k1, k2, p1, p3]; rfl
   ·show h2.get c = g2.get c
    rw [k1, k2, H.get_put hy, H.get_put hx, p1, p3, H.get_put hx, H.get_put hy]
    by_cases cx : c = x
    ·subst cx; simp only [if_neg hne, if_true]
    ·by_cases cy : c = y
     ·subst cy; simp only [if_true, if_neg cx]
     ·simp only [if_neg cy, if_neg cx]
  ·cases ht
 ·cases ht
theorem fork_aft {C : Cfg} {rec : Req → M Res} {fr : Fr} {ops : Array Oper} {its : List It} {x : X} {a b : It} {k : Nat} {d : DS} {s' : AM.S} (h : forkFin C rec fr ops its a b k d = .ok (.x x s')) : Aft C rec fr ops its x [a, b] k d s' := by
 unfold forkFin at h
 split at h
 ·cases h
 ·rename_i hq
  simp only [Bool.and_eq_true] at hq
  obtain ⟨⟨⟨hts, hnl⟩, wa⟩, wb⟩ := hq
  have hl : ∀ it ∈ its, 3 ≤ it.c ∨ it.lo ≤ k := by
   intro it hit
   have := List.all_eq_true.1 hnl it hit
   simp only [Bool.or_eq_true] at this
   exact this.imp Nat.le_of_ble_eq_true Nat.le_of_ble_eq_true
  split at h
  ·rename_i d1 e1 ha hb'
   split at h
   ·cases h
   ·rename_i hq
    simp only [Bool.and_eq_true] at hq
    obtain ⟨⟨⟨p1, p2⟩, w1⟩, w2⟩ := hq
    split at h
    ·rename_i d2 e2 hb ha'
     split at h
     ·rename_i hq
      simp only [Bool.and_eq_true] at hq
      obtain ⟨⟨⟨p3, p4⟩, m1⟩, m2⟩ := hq
      cases h
      have one : ∀ {y : It}, ∀ z ∈ ([] : List It), z.anc.testBit y.i = true := fun z hz => by cases hz
      refine .fork wa wb ha (phase_late (by omega) hl) p1 hb' (phase_late (by omega) hl) p2 (.step one w1 hb (phase_late (by omega) hl) p3 (.nil ?_)) (.step one w2 ha' (phase_late (by omega) hl) p4 (.nil (s' := e2.s) ?_)) (stores_eqv hts ha hb hb' ha')
      ·unfold full; rw [m1]
      ·unfold full; rw [m2]
     ·cases h
    ·cases h
  ·cases h
theorem phases_fork {C : Cfg} {rec : Req → M Res} {fr : Fr} {ops : Array Oper} {its : List It} {x : X} {a b : It} {s' : AM.S} : ∀ {f : List It} {k anc : Nat} {d : DS}, chainOk (f ++ [a]) = true → chainOk (f ++ [b]) = true →
  phases C rec fr ops its (forkFin C rec fr ops its a b (k + f.length)) f k anc d = .ok (.x x s') → ∃ d1, phase C fr ops k its d = some d1 ∧ pendOk C d1.s.h anc d1.evs = true ∧ Aft C rec fr ops its x (f ++ [a, b]) k d1 s'
 | [], k, anc, d, _, _, h => by
  unfold phases at h
  split at h
  ·cases h
  ·rename_i d1 h1
   split at h
   ·cases h
   ·rename_i h2
    exact ⟨d1, h1, h2, fork_aft h⟩
 | hd :: f, k, anc, d, ca, cb, h => by
  obtain ⟨a1, a2⟩ := chain_head ca
  obtain ⟨b1, b2⟩ := chain_head cb
  have ho : ∀ y ∈ f ++ [a, b], y.anc.testBit hd.i = true := by
   intro y hy
   rcases List.mem_append.1 hy with hy | hy
   ·exact a1 y (List.mem_append_left _ hy)
   ·cases hy with
    | head => exact a1 a (by simp)
    | tail _ hy => cases hy with
     | head => exact b1 b (by simp)
     | tail _ hy => cases hy
  unfold phases at h
  split at h
  ·cases h
  ·rename_i d1 h1
   split at h
   ·cases h
   ·rename_i h2
    refine ⟨d1, h1, h2, ?_⟩
    split at h
    ·rename_i e; cases e
    ·rename_i it hs e
     cases e
     split at h
     ·cases h
     ·rename_i hw
      split at h
      ·cases h
      ·rename_i ch s hh
       cases h
       exact .stop ho hw hh rfl
      ·rename_i d' hh
       have hk : k + (hd :: f).length = (k + 1) + f.length := by simp; omega
       rw [hk] at h
       obtain ⟨d2, g1, g2, g3⟩ := phases_fork a2 b2 h
       exact .step ho hw hh g1 g2 g3
theorem last2_spec : ∀ {l f : List It} {a b : It}, last2 l = some (f, a, b) → l = f ++ [a, b]
 | [], _, _, _, h => by simp [last2] at h
 | [_], _, _, _, h => by simp [last2] at h
 | [x, y], f, a, b, h => by simp only [last2] at h; cases h; rfl
 | x :: y :: c :: r, f, a, b, h => by
  simp only [last2] at h
  split at h
  ·rename_i f' a' b' h'
   cases h
   rw [last2_spec h']; rfl
  ·cases h
theorem drawn_sound {C : Cfg} (pr : PrOk C) {rec : Req → M Res} (S : Sound C rec) {fr : Fr} {id : Nat} {ops : Array Oper} {s : AM.S} {x : X} {s' : AM.S} (h : drawnOps C rec fr ops s = .ok (.x x s')) : SItem C.P C.gl fr (.code (.region id ops true)) s x s' := by
 unfold drawnOps at h
 simp only at h
 split at h
 ·cases h
 ·rename_i hq
  simp only [Bool.and_eq_true] at hq
  obtain ⟨sl, bk⟩ := hq
  have ok := items_ok (P := C.P) ops
  generalize items C.P ops.toList = its at *
  have key : ∃ d1, phase C fr ops 0 its ⟨s, [], 0⟩ = some d1 ∧ pendOk C d1.s.h 0 d1.evs = true ∧ Aft C rec fr ops its x (its.filter fun it => Nat.ble 3 it.c) 0 d1 s' := by
   split at h
   ·rename_i ch
    obtain ⟨d1, p1, p2, p3⟩ := phases_after h
    exact ⟨d1, p1, p2, Aft.of_chain ch p3⟩
   ·split at h
    ·rename_i f a b hl
     split at h
     ·rename_i hc
      simp only [Bool.and_eq_true] at hc
      have h : phases C rec fr ops its (forkFin C rec fr ops its a b (0 + f.length)) f 0 0 ⟨s, [], 0⟩ = .ok (.x x s') := by rw [Nat.zero_add]; exact h
      rw [last2_spec hl]
      exact phases_fork hc.1 hc.2 h
     ·cases h
    ·cases h
  ·intro E w0 w b tmps df cs k st
   obtain ⟨d1, p1, p2, p3⟩ := key
   have hI : lst (Array.replicate ops.size false) = fun _ => false := by
    funext j
    unfold lst
    simp [Array.getD_eq_getD_getElem?, Array.getElem?_replicate]
    split <;> rfl
   have m0 := st.mr.drawn (w.drawn + 1)
   have v0 : INV C fr ops its s.tm ⟨s, [], 0⟩ (lst (Array.replicate ops.size false)) E w0 { w with drawn := w.drawn + 1 } b tmps df cs := by
    rw [hI]
    exact ⟨Good.nil, ⟨m0, st.tr, st.dr, st.uk, st.fr, st.gl⟩, (fun i hi => by cases hi), (fun e he => by cases he), (fun e he => by cases he), (fun e he => by cases he), (fun e he => by cases he)⟩
   obtain ⟨v1, x1, bs1, u1⟩ := phase_inv (E0 := E) (h0 := s.h) its _ d1 (fun _ h => h) p1 v0 (Ext.refl _ _) (fun e he => by cases he)
   obtain ⟨E', tmps', df', cs', w', b1, b2, b3, b4, b5⟩ := tail_sound pr S ok sl bk k ops.size (w.tape w.drawn (.order b.fn id)) (Array.replicate ops.size false) _ 0 d1 s' E { w with drawn := w.drawn + 1 } tmps df cs
    (by simp) (by simp) v1
    (by
     intro e' he' hI' hk'
     exact pendOk_spec p2 v1.pur e' he' hk' (Nat.zero_testBit _))
    (by rw [hI]; intro it hit hz; cases hz)
    (fun it hit => by
     obtain ⟨q1, q2⟩ := List.mem_filter.1 hit
     exact ⟨q1, Nat.le_of_ble_eq_true q2⟩)
    (fun it hit hc => .inl (List.mem_filter.2 ⟨hit, Nat.ble_eq_true_of_le hc⟩)) x1 bs1 p3
   refine ⟨E', tmps', df', cs', w', b1, b2, u1 ▸ b3, by rw [b4, u1], Arr.of (.one ?_) b5⟩
   rw [st_draw]
   simp only [Region.schedule, pr.mix, Bool.true_or, if_true]
   rfl
end
end Go.AM
end
