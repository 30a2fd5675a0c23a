/- The abstract machine: regions whose order is drawn: what stays true. -/
import Derived.Test.YtaednlggmjlaaaaGreatDoorAmDrawn1
set_option linter.unusedVariables false
set_option linter.unusedSimpArgs false
namespace Go.AM
noncomputable section
open Go.RowKit

structure Good (fr : Fr) (ops : Array Oper) (its : List It) (tm0 : T V) (d : DS) : Prop where
  mem : ∀ e ∈ d.evs, e.it ∈ its
  mask : ∀ j, d.mask.testBit j = true ↔ ∃ e ∈ d.evs, e.it.i = j
  tm : d.s.tm = tmOf (fun _ => true) tm0 d.evs
  dst : ∀ e ∈ d.evs, ∀ s, e.it.o.dst = some s → s < fr.nt
  bb : ∀ e ∈ d.evs, e.k = 2 → e.b < d.s.h.nxt
  split : ∀ post e pre, d.evs = post ++ e :: pre →
    (∀ j, e.it.anc.testBit j = true → ∃ e' ∈ pre, e'.it.i = j) ∧ (∀ e' ∈ pre, e'.it.i ≠ e.it.i) ∧
    (∀ t v, e.tmr.get t = some v → t ∈ tmpsOf ops e.it.o ∧ (tmOf (fun _ => true) tm0 pre).get t = some v) ∧
    (∀ e' ∈ pre, e'.k = 2 → e'.b < e.b) ∧
    (e.k = 0 → wantedA ops e.it.o e.tmr = some false ∧ e.v = undefV) ∧ (e.k ≠ 0 → wantedA ops e.it.o e.tmr = some true)

theorem Good.nil {fr : Fr} {ops : Array Oper} {its : List It} {s : S} : Good fr ops its s.tm ⟨s, [], 0⟩ :=
  ⟨by simp, by simp, rfl, by simp, by simp, by intro post e pre h; simp at h⟩

theorem turn_spec {d : DS} {it : It} (h : turnOk d it = true) : (∀ j, it.anc.testBit j = true → d.mask.testBit j = true) ∧ d.mask.testBit it.i = false := by
  unfold turnOk at h
  simp only [Bool.and_eq_true, Bool.not_eq_true'] at h
  refine ⟨fun j hj => ?_, h.2⟩
  have e := Nat.eq_of_beq_eq_true h.1
  rw [← e, Nat.testBit_and, Bool.and_eq_true] at hj
  exact hj.2

theorem Good.add {fr : Fr} {ops : Array Oper} {its : List It} {tm0 : T V} {d d' : DS} {it : It} {k : Nat} {v : V} {s : S} (g : Good fr ops its tm0 d) (hit : it ∈ its) (ht : turnOk d it = true)
    (ha : d.add fr it (sub d.s.tm (tmpsOf ops it.o)) k v s = some d') (hs : s.tm = d.s.tm) (hn : d.s.h.nxt ≤ s.h.nxt) (hk2 : k = 2 → d.s.h.nxt < s.h.nxt)
    (h0 : k = 0 → wantedA ops it.o (sub d.s.tm (tmpsOf ops it.o)) = some false ∧ v = undefV) (h1 : k ≠ 0 → wantedA ops it.o (sub d.s.tm (tmpsOf ops it.o)) = some true) :
    Good fr ops its tm0 d' ∧ ∃ tm, putT fr.nt d.s.tm it.o.dst v = some tm ∧ d' = { s := { s with tm }, evs := ⟨it, sub d.s.tm (tmpsOf ops it.o), k, v, d.s.h.nxt⟩ :: d.evs, mask := d.mask ||| 2 ^ it.i } := by
  unfold DS.add at ha
  split at ha
  · rename_i tm htm
    cases ha
    obtain ⟨t1, t2⟩ := turn_spec ht
    refine ⟨⟨fun e he => ?_, fun j => ?_, ?_, fun e he q hq => ?_, fun e he hk => ?_, fun post e pre heq => ?_⟩, tm, htm, rfl⟩
    · cases he with
      | head => exact hit
      | tail _ he => exact g.mem e he
    · rw [Nat.testBit_or, Bool.or_eq_true, g.mask, Nat.testBit_two_pow]
      constructor
      · rintro (⟨e, h1, h2⟩ | h)
        · exact ⟨e, List.mem_cons_of_mem _ h1, h2⟩
        · exact ⟨_, List.mem_cons_self .., of_decide_eq_true h⟩
      · rintro ⟨e, h1, h2⟩
        cases h1 with
        | head => exact .inr (decide_eq_true h2)
        | tail _ h1 => exact .inl ⟨e, h1, h2⟩
    · show tm = _
      simp only [tmOf, if_true, putE]
      rw [← g.tm]
      cases hd : it.o.dst with
      | none => rw [hd] at htm; simp [putT] at htm; exact htm.symm
      | some q =>
        rw [hd] at htm
        simp only [putT] at htm
        split at htm
        · cases htm; rfl
        · cases htm
    · cases he with
      | head =>
        have hq' : it.o.dst = some q := hq
        rw [hq'] at htm
        simp only [putT] at htm
        split at htm
        · rename_i hb; rwa [Nat.blt_eq] at hb
        · cases htm
      | tail _ he => exact g.dst e he q hq
    · cases he with
      | head => exact hk2 hk
      | tail _ he => exact Nat.lt_of_lt_of_le (g.bb e he hk) hn
    · cases post with
      | nil =>
        simp only [List.nil_append, List.cons.injEq] at heq
        obtain ⟨rfl, rfl⟩ := heq
        refine ⟨fun j hj => (g.mask j).1 (t1 j hj), fun e' he' hne => ?_, fun t u hu => ?_, fun e' he' hk => g.bb e' he' hk, h0, h1⟩
        · have := (g.mask it.i).2 ⟨e', he', hne⟩
          rw [t2] at this; cases this
        · obtain ⟨a, b⟩ := sub_get hu
          rw [← g.tm]; exact ⟨a, b⟩
      | cons p post =>
        simp only [List.cons_append, List.cons.injEq] at heq
        exact g.split post e pre heq.2
  · cases ha

/-- two items of one index, in two places: there are none. -/
theorem Good.once {fr : Fr} {ops : Array Oper} {its : List It} {tm0 : T V} {d : DS} (g : Good fr ops its tm0 d) {post pre : List Ev} {e : Ev} (h : d.evs = post ++ e :: pre) :
    (∀ e' ∈ post, e'.it.i ≠ e.it.i ∧ ∀ e'' ∈ pre, e'.it.i ≠ e''.it.i) := by
  intro e' he'
  obtain ⟨p1, p2, rfl⟩ := List.append_of_mem he'
  have := (g.split p1 e' (p2 ++ e :: pre) (by rw [h]; simp)).2.1
  exact ⟨fun q => this e (by simp) q.symm, fun e'' h'' q => this e'' (by simp [h'']) q.symm⟩

theorem slot_spec {ops : Array Oper} {its : List It} (h : slotOk ops its = true) {x y : It} (hx : x ∈ its) (hy : y ∈ its) (hne : x.i ≠ y.i) {t : Nat} (hd : y.o.dst = some t) (hr : t ∈ tmpsOf ops x.o ∨ x.o.dst = some t) :
    x.anc.testBit y.i = true ∨ y.anc.testBit x.i = true := by
  unfold slotOk at h
  have := List.all_eq_true.1 (List.all_eq_true.1 h x hx) y hy
  simp only [hd, Bool.or_eq_true, Bool.not_eq_true', cmpb] at this
  rcases this with (h1 | h1) | h1
  · exact absurd h1 (by first | (intro q; exact hne (Nat.eq_of_beq_eq_true q)) | (intro q; exact hne (Nat.eq_of_beq_eq_true q).symm) | (intro q; exact hne (eq_of_beq q)) | (intro q; exact hne (eq_of_beq q).symm) | (simpa using hne) | (intro q; exact hne (by simpa using q)))
  · exact h1
  · exfalso
    rw [Bool.or_eq_false_iff] at h1
    rcases hr with hr | hr
    · have := h1.1; rw [List.contains_iff_mem.2 hr] at this; cases this
    · have := h1.2; rw [hr] at this; simp at this

def Closed (its : List It) (I : Nat → Bool) : Prop := ∀ it ∈ its, I it.i = true → ∀ e ∈ it.o.after.toList, Region.binds .any e = true → I e.on = true

structure INV (C : Cfg) (fr : Fr) (ops : Array Oper) (its : List It) (tm0 : T V) (d : DS) (I : Nat → Bool) (E : Env) (w0 w : World) (b : Frame) (tmps : Array Value) (df : List Deferred) (cs : List Frame) : Prop where
  good : Good fr ops its tm0 d
  st : StR C.gl E fr { d.s with tm := tmOf I tm0 d.evs } b tmps df cs w0 w
  sub : ∀ i, I i = true → ∃ e ∈ d.evs, e.it.i = i
  heavy : ∀ e ∈ d.evs, 3 ≤ e.it.c → I e.it.i = true
  kc : ∀ e ∈ d.evs, e.it.c < 3 → e.k ≤ 2
  pur : ∀ e ∈ d.evs, e.k = 1 → pureOp e.it.o = true → ∀ h, alight C.P C.gl e.tmr h e.it.o = some e.v
  alloc : ∀ e ∈ d.evs, I e.it.i = false → e.k = 2 → ∃ ob, E e.b = none ∧ glim ≤ e.b ∧ d.s.h.get e.b = some ob ∧ AllocR C.P C.gl fr.nt e.tmr e.it.o e.b ob e.v

def Lights (C : Cfg) (d : DS) (I : Nat → Bool) : Prop := ∀ e ∈ d.evs, I e.it.i = false → e.k = 1 → alight C.P C.gl e.tmr d.s.h e.it.o = some e.v

section
variable {C : Cfg} {fr : Fr} {ops : Array Oper} {its : List It} {tm0 : T V} {d : DS} {I : Nat → Bool} {E : Env} {w0 w : World} {b : Frame} {tmps : Array Value} {df : List Deferred} {cs : List Frame}

theorem ev_anc (ok : ItsOk C.P ops its) (dc : Closed its I) {it : It} (hit : it ∈ its) (hI : I it.i = true) : ∀ j, it.anc.testBit j = true → I j = true :=
  anc_in ok dc (it.i + 1) it (Nat.lt_succ_self _) hit (dc it hit hI)

/-- what is written to a slot by items behind an item that is not done. -/
theorem post_clear (ok : ItsOk C.P ops its) (sl : slotOk ops its = true) (dc : Closed its I) (g : Good fr ops its tm0 d) {post pre : List Ev} {e : Ev} (h : d.evs = post ++ e :: pre) (hI : I e.it.i = false) {t : Nat}
    (hr : t ∈ tmpsOf ops e.it.o ∨ e.it.o.dst = some t) : ∀ e' ∈ post, I e'.it.i = true → e'.it.o.dst ≠ some t := by
  intro e' he' hI' hd
  obtain ⟨n1, n2⟩ := g.once h e' he'
  have m1 := g.mem e (by rw [h]; simp)
  have m2 := g.mem e' (by rw [h]; simp [he'])
  rcases slot_spec sl m1 m2 (fun q => n1 q.symm) hd hr with h1 | h1
  · obtain ⟨e'', h2, h3⟩ := (g.split post e pre h).1 _ h1
    exact n2 e'' h2 h3.symm
  · have := ev_anc ok dc m2 hI' _ h1
    rw [hI] at this; cases this

theorem pend_get (ok : ItsOk C.P ops its) (sl : slotOk ops its = true) (dc : Closed its I) (v : INV C fr ops its tm0 d I E w0 w b tmps df cs) {e : Ev} (he : e ∈ d.evs) (hI : I e.it.i = false) (ha : ∀ j, e.it.anc.testBit j = true → I j = true) :
    ∀ t u, e.tmr.get t = some u → (tmOf I tm0 d.evs).get t = some u := by
  intro t u hu
  obtain ⟨post, pre, heq⟩ := List.append_of_mem he
  obtain ⟨s1, s2, s3, s4, s5, s6⟩ := v.good.split post e pre heq
  obtain ⟨ht, hg⟩ := s3 t u hu
  have hl : ∀ e' ∈ d.evs, ∀ q, e'.it.o.dst = some q → q < lim := fun e' h' q hq => Nat.lt_of_lt_of_le (v.good.dst e' h' q hq) v.st.fr.nt
  rw [heq, tmOf_skip post (fun e' h' => hl e' (by rw [heq]; simp [h'])) (post_clear ok sl dc v.good heq hI (.inl ht))]
  simp only [tmOf, hI, Bool.false_eq_true, if_false]
  rw [tmOf_same (J := fun _ => true) pre (fun e' h' => hl e' (by rw [heq]; simp [h'])) (fun e' h' hd => ?_)]
  · exact hg
  · have m1 := v.good.mem e he
    have m2 := v.good.mem e' (by rw [heq]; simp [h'])
    rcases slot_spec sl m1 m2 (fun q => s2 e' h' q.symm) hd (.inl ht) with h1 | h1
    · exact ha _ h1
    · exfalso
      obtain ⟨p1, p2, hp⟩ := List.append_of_mem h'
      obtain ⟨q1, q2, _⟩ := v.good.split (post ++ e :: p1) e' p2 (by rw [heq, hp]; simp)
      obtain ⟨e'', h2, h3⟩ := q1 _ h1
      exact s2 e'' (by rw [hp]; simp [h2]) h3

theorem pend_TR (ok : ItsOk C.P ops its) (sl : slotOk ops its = true) (dc : Closed its I) (v : INV C fr ops its tm0 d I E w0 w b tmps df cs) {e : Ev} (he : e ∈ d.evs) (hI : I e.it.i = false) (ha : ∀ j, e.it.anc.testBit j = true → I j = true) : TR E fr.nt e.tmr tmps :=
  ⟨v.st.tr.1, fun t u hu => v.st.tr.2 t u (pend_get ok sl dc v he hI ha t u hu)⟩

/-- one item more is done. -/
def ins (I : Nat → Bool) (i : Nat) : Nat → Bool := fun j => if j = i then true else I j

theorem ins_TR (ok : ItsOk C.P ops its) (sl : slotOk ops its = true) (dc : Closed its I) (v : INV C fr ops its tm0 d I E w0 w b tmps df cs) {E' : Env} (hE : E.le E') {e : Ev} (he : e ∈ d.evs) (hI : I e.it.i = false) {v' : Value} (hv : AR E' e.v v') :
    TR E' fr.nt (tmOf (ins I e.it.i) tm0 d.evs) (putA tmps e.it.o.dst v') := by
  obtain ⟨post, pre, heq⟩ := List.append_of_mem he
  have hl : ∀ e' ∈ d.evs, ∀ q, e'.it.o.dst = some q → q < lim := fun e' h' q hq => Nat.lt_of_lt_of_le (v.good.dst e' h' q hq) v.st.fr.nt
  have honce := v.good.once heq
  have s2 := (v.good.split post e pre heq).2.1
  have same : ∀ e' ∈ post, ins I e.it.i e'.it.i = I e'.it.i := by
    intro e' h'; unfold ins; rw [if_neg (honce e' h').1]
  have same2 : ∀ e' ∈ pre, ins I e.it.i e'.it.i = I e'.it.i := by
    intro e' h'; unfold ins; rw [if_neg (s2 e' h')]
  have tr := v.st.tr
  have key : ∀ t, e.it.o.dst ≠ some t → (tmOf (ins I e.it.i) tm0 d.evs).get t = (tmOf I tm0 d.evs).get t := by
    intro t ht
    refine tmOf_same d.evs hl fun e' h' hd => ?_
    unfold ins
    split
    · rename_i q
      exfalso
      have hm := v.good.mem e' h'
      have hm2 := v.good.mem e he
      rw [heq] at h'
      rcases List.mem_append.1 h' with h' | h'
      · exact (honce e' h').1 q
      · cases h' with
        | head => exact ht hd
        | tail _ h' => exact s2 e' h' q
    · rfl
  refine ⟨?_, fun t u hu => ?_⟩
  · cases e.it.o.dst with
    | none => exact tr.1
    | some q => simp only [putA, Array.size_setIfInBounds]; exact tr.1
  · by_cases hd : e.it.o.dst = some t
    · have hg : (tmOf (ins I e.it.i) tm0 d.evs).get t = some e.v := by
        rw [heq, tmOf_skip post (fun e' h' => hl e' (by rw [heq]; simp [h'])) (fun e' h' hI' => ?_)]
        · simp only [tmOf]
          rw [if_pos (by unfold ins; rw [if_pos rfl]), putE_get (hl e he), if_pos hd]
        · rw [same e' h'] at hI'
          exact post_clear ok sl dc v.good heq hI (.inr hd) e' h' hI'
      rw [hg] at hu
      cases hu
      refine ⟨v', ?_, hv⟩
      rw [hd]
      simp only [putA, Array.getElem?_setIfInBounds, if_true]
      rw [if_pos (by rw [tr.1]; exact v.good.dst e he t hd)]
    · rw [key t hd] at hu
      obtain ⟨u', h1, h2⟩ := tr.2 t u hu
      refine ⟨u', ?_, h2.mono hE⟩
      cases hq : e.it.o.dst with
      | none => exact h1
      | some q =>
        simp only [putA, Array.getElem?_setIfInBounds]
        rw [if_neg (fun z => hd (by rw [hq, z]))]; exact h1
end
end
end Go.AM
