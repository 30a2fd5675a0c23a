/- The machine of values: regions whose order is drawn: slots, and what stays true. -/
import Derived.Test.YtdmpeinbbcjamaaVmHeavy
set_option linter.unusedVariables false
set_option linter.unusedSimpArgs false
namespace Go.VM
open Go.RowKit

def tsub (tm : TM) : List Nat → TM
  | [] => []
  | t :: ts => match tg tm t with
    | some v => (t, v) :: tsub tm ts
    | none => tsub tm ts

theorem tsub_get {tm : TM} {t : Nat} {v : TV} : ∀ {ts : List Nat}, tg (tsub tm ts) t = some v → t ∈ ts ∧ tg tm t = some v
  | [], h => by simp [tsub, tg] at h
  | s :: ts, h => by
    simp only [tsub] at h
    split at h
    · rename_i u hu
      rw [tg_cons] at h
      split at h
      · rename_i e; cases h; subst e; exact ⟨List.mem_cons_self .., hu⟩
      · obtain ⟨a, b⟩ := tsub_get h; exact ⟨List.mem_cons_of_mem _ a, b⟩
    · obtain ⟨a, b⟩ := tsub_get h; exact ⟨List.mem_cons_of_mem _ a, b⟩

/-- what came of an item: 0 it was passed over, 1 a value, 2 a new object, 3 all else, 4 a new list. -/
structure Ev where
  it : It
  tmr : TM
  k : Nat
  v : TV
  b : Nat

structure DS where
  s : S
  evs : List Ev
  mask : Nat

/-- an item in its turn: all that it hangs on is done, it itself is not. -/
def turnOk (d : DS) (it : It) : Bool := Nat.beq (it.anc &&& d.mask) it.anc && !d.mask.testBit it.i

def DS.add (fr : Fr) (d : DS) (it : It) (tmr : TM) (k : Nat) (v : TV) (s : S) : Option DS :=
  match putT fr.nt d.s.tm it.o.dst v with
  | some tm => some { s := { s with tm }, evs := ⟨it, tmr, k, v, d.s.h.nxt⟩ :: d.evs, mask := d.mask ||| 2 ^ it.i }
  | none => none

def clearD (tm : TM) : List It → TM
  | [] => tm
  | it :: its => match it.o.dst with
    | some d => clearD (tdel tm d) its
    | none => clearD tm its

/-- what is not done yet hangs on the heavy item that comes next. -/
def waits (its : List It) (it : It) (d : DS) : Bool := its.all fun x => Nat.ble 3 x.c || d.mask.testBit x.i || x.anc.testBit it.i

/-! ### the slots, item by item -/
def putE (tm : TM) (e : Ev) : TM :=
  match e.it.o.dst with
  | some d => (d, e.v) :: tm
  | none => tm

def tmOf (I : Nat → Bool) (tm0 : TM) : List Ev → TM
  | [] => tm0
  | e :: es => if I e.it.i = true then putE (tmOf I tm0 es) e else tmOf I tm0 es

theorem putE_get {tm : TM} {e : Ev} {t : Nat} : tg (putE tm e) t = if e.it.o.dst = some t then some e.v else tg tm t := by
  unfold putE
  cases hd : e.it.o.dst with
  | none => simp
  | some d =>
    simp only [tg_cons, Option.some.injEq]
    by_cases hdt : d = t
    · rw [if_pos hdt.symm, if_pos hdt]
    · rw [if_neg (fun e => hdt e.symm), if_neg hdt]

theorem tmOf_skip {I : Nat → Bool} {tm0 : TM} {t : Nat} {pre : List Ev} : ∀ (post : List Ev), (∀ e ∈ post, I e.it.i = true → e.it.o.dst ≠ some t) →
    tg (tmOf I tm0 (post ++ pre)) t = tg (tmOf I tm0 pre) t
  | [], _ => rfl
  | e :: post, h => by
    have ih := tmOf_skip (I := I) (tm0 := tm0) (t := t) (pre := pre) post (fun e he => h e (List.mem_cons_of_mem _ he))
    simp only [List.cons_append, tmOf]
    split
    · rename_i hi
      rw [putE_get, if_neg (h e (List.mem_cons_self ..) hi)]; exact ih
    · exact ih

theorem tmOf_same {I J : Nat → Bool} {tm0 : TM} {t : Nat} : ∀ (es : List Ev), (∀ e ∈ es, e.it.o.dst = some t → I e.it.i = J e.it.i) → tg (tmOf I tm0 es) t = tg (tmOf J tm0 es) t
  | [], _ => rfl
  | e :: es, h => by
    have ih := tmOf_same (I := I) (J := J) (tm0 := tm0) (t := t) es (fun e he => h e (List.mem_cons_of_mem _ he))
    simp only [tmOf]
    by_cases hd : e.it.o.dst = some t
    · rw [h e (List.mem_cons_self ..) hd]
      split
      · rw [putE_get, putE_get, if_pos hd, if_pos hd]
      · exact ih
    · have g : ∀ (b : Bool) (tm : TM), tg (if b = true then putE tm e else tm) t = tg tm t := by
        intro b tm; split
        · rw [putE_get, if_neg hd]
        · rfl
      rw [g, g]; exact ih

structure Good (fr : Fr) (ops : Array Oper) (its : List It) (tm0 : TM) (d : DS) : Prop where
  mem : ∀ e ∈ d.evs, e.it ∈ its
  mask : ∀ j, d.mask.testBit j = true ↔ ∃ e ∈ d.evs, e.it.i = j
  tm : d.s.tm = tmOf (fun _ => true) tm0 d.evs
  dst : ∀ e ∈ d.evs, ∀ s, e.it.o.dst = some s → s < fr.nt
  bb : ∀ e ∈ d.evs, e.k = 2 → e.b < d.s.h.nxt
  split : ∀ post e pre, d.evs = post ++ e :: pre →
    (∀ j, e.it.anc.testBit j = true → ∃ e' ∈ pre, e'.it.i = j) ∧ (∀ e' ∈ pre, e'.it.i ≠ e.it.i) ∧
    (∀ t v, tg e.tmr t = some v → t ∈ tmpsOf ops e.it.o ∧ tg (tmOf (fun _ => true) tm0 pre) t = some v) ∧
    (∀ e' ∈ pre, e'.k = 2 → e'.b < e.b ∨ e.k ≠ 2) ∧
    (e.k = 0 → wantedA ops e.it.o e.tmr = some false ∧ e.v = .v undefV) ∧ (e.k ≠ 0 → wantedA ops e.it.o e.tmr = some true)

theorem Good.nil {fr : Fr} {ops : Array Oper} {its : List It} {s : S} : Good fr ops its s.tm ⟨s, [], 0⟩ :=
  ⟨by simp, by simp, rfl, by simp, by simp, by intro post e pre h; simp at h⟩

theorem turn_spec {d : DS} {it : It} (h : turnOk d it = true) : (∀ j, it.anc.testBit j = true → d.mask.testBit j = true) ∧ d.mask.testBit it.i = false := by
  unfold turnOk at h
  simp only [Bool.and_eq_true, Bool.not_eq_true'] at h
  refine ⟨fun j hj => ?_, h.2⟩
  have e := Nat.eq_of_beq_eq_true h.1
  rw [← e, Nat.testBit_and, Bool.and_eq_true] at hj
  exact hj.2

theorem Good.add {fr : Fr} {ops : Array Oper} {its : List It} {tm0 : TM} {d d' : DS} {it : It} {k : Nat} {v : TV} {s : S} (g : Good fr ops its tm0 d) (hit : it ∈ its) (ht : turnOk d it = true)
    (ha : d.add fr it (tsub d.s.tm (tmpsOf ops it.o)) k v s = some d') (hs : s.tm = d.s.tm) (hn : d.s.h.nxt ≤ s.h.nxt) (hk2 : k = 2 → d.s.h.nxt < s.h.nxt)
    (h0 : k = 0 → wantedA ops it.o (tsub d.s.tm (tmpsOf ops it.o)) = some false ∧ v = .v undefV) (h1 : k ≠ 0 → wantedA ops it.o (tsub d.s.tm (tmpsOf ops it.o)) = some true) :
    Good fr ops its tm0 d' ∧ ∃ tm, putT fr.nt d.s.tm it.o.dst v = some tm ∧ d' = { s := { s with tm }, evs := ⟨it, tsub d.s.tm (tmpsOf ops it.o), k, v, d.s.h.nxt⟩ :: d.evs, mask := d.mask ||| 2 ^ it.i } := by
  unfold DS.add at ha
  split at ha
  · rename_i tm htm
    cases ha
    obtain ⟨t1, t2⟩ := turn_spec ht
    refine ⟨⟨fun e he => ?_, fun j => ?_, ?_, fun e he q hq => ?_, fun e he hk => ?_, fun post e pre heq => ?_⟩, tm, htm, rfl⟩
    · cases he with
      | head => exact hit
      | tail _ he => exact g.mem e he
    · rw [Nat.testBit_or, Bool.or_eq_true, g.mask, Nat.testBit_two_pow]
      constructor
      · rintro (⟨e, h1, h2⟩ | h)
        · exact ⟨e, List.mem_cons_of_mem _ h1, h2⟩
        · exact ⟨_, List.mem_cons_self .., of_decide_eq_true h⟩
      · rintro ⟨e, h1, h2⟩
        cases h1 with
        | head => exact .inr (decide_eq_true h2)
        | tail _ h1 => exact .inl ⟨e, h1, h2⟩
    · show tm = _
      simp only [tmOf, if_true, putE]
      rw [← g.tm]
      cases hd : it.o.dst with
      | none => rw [hd] at htm; simp [putT] at htm; exact htm.symm
      | some q =>
        rw [hd] at htm
        simp only [putT] at htm
        split at htm
        · cases htm; rfl
        · cases htm
    · cases he with
      | head =>
        have hq' : it.o.dst = some q := hq
        rw [hq'] at htm
        simp only [putT] at htm
        split at htm
        · rename_i hb; rwa [Nat.blt_eq] at hb
        · cases htm
      | tail _ he => exact g.dst e he q hq
    · cases he with
      | head => exact hk2 hk
      | tail _ he => exact Nat.lt_of_lt_of_le (g.bb e he hk) hn
    · cases post with
      | nil =>
        simp only [List.nil_append, List.cons.injEq] at heq
        obtain ⟨rfl, rfl⟩ := heq
        refine ⟨fun j hj => (g.mask j).1 (t1 j hj), fun e' he' hne => ?_, fun t u hu => ?_, fun e' he' hk => .inl (g.bb e' he' hk), h0, h1⟩
        · have := (g.mask it.i).2 ⟨e', he', hne⟩
          rw [t2] at this; cases this
        · obtain ⟨a, b⟩ := tsub_get hu
          rw [← g.tm]; exact ⟨a, b⟩
      | cons p post =>
        simp only [List.cons_append, List.cons.injEq] at heq
        exact g.split post e pre heq.2
  · cases ha

/-- two items of one index, in two places: there are none. -/
theorem Good.once {fr : Fr} {ops : Array Oper} {its : List It} {tm0 : TM} {d : DS} (g : Good fr ops its tm0 d) {post pre : List Ev} {e : Ev} (h : d.evs = post ++ e :: pre) :
    (∀ e' ∈ post, e'.it.i ≠ e.it.i ∧ ∀ e'' ∈ pre, e'.it.i ≠ e''.it.i) := by
  intro e' he'
  obtain ⟨p1, p2, rfl⟩ := List.append_of_mem he'
  have := (g.split p1 e' (p2 ++ e :: pre) (by rw [h]; simp)).2.1
  exact ⟨fun q => this e (by simp) q.symm, fun e'' h'' q => this e'' (by simp [h'']) q.symm⟩

structure INV (P : Program) (gl : List Nat) (fr : Fr) (ops : Array Oper) (its : List It) (tm0 : TM) (d : DS) (I : Nat → Bool) (E : Env) (F : Fx) (w0 w : World) (b : Frame) (tmps : Array Value) (df : List Deferred) (cs : List Frame) : Prop where
  good : Good fr ops its tm0 d
  st : StR gl E F fr { d.s with tm := tmOf I tm0 d.evs } b tmps df cs w0 w
  sub : ∀ i, I i = true → ∃ e ∈ d.evs, e.it.i = i
  heavy : ∀ e ∈ d.evs, 3 ≤ e.it.c → I e.it.i = true
  kc : ∀ e ∈ d.evs, e.it.c < 3 → e.k ≠ 3
  kk : ∀ e ∈ d.evs, e.k ≤ 4
  nd : ∀ e ∈ d.evs, e.it.c < 3 → ∀ c, e.it.o.op ≠ .defer c
  alloc : ∀ e ∈ d.evs, I e.it.i = false → e.k = 2 → ∃ ob v, e.v = .v v ∧ E.ob e.b = none ∧ glim ≤ e.b ∧ d.s.h.ob e.b = some ob ∧ (∀ n, ob ≠ .tok n) ∧ AllocO P gl fr.nt e.tmr e.it.o e.b ob v
  list : ∀ e ∈ d.evs, I e.it.i = false → e.k = 4 → ∃ v, e.v = .v v ∧ AllocF P gl fr.nt e.tmr e.it.o v

def Lights (P : Program) (gl : List Nat) (fr : Fr) (d : DS) (I : Nat → Bool) : Prop := ∀ e ∈ d.evs, I e.it.i = false → e.k = 1 → Light P gl fr.nt e.tmr d.s.h e.it.o e.v

/-- one item more is done. -/
def ins (I : Nat → Bool) (i : Nat) : Nat → Bool := fun j => if j = i then true else I j

section
variable {P : Program} {gl : List Nat} {fr : Fr} {ops : Array Oper} {its : List It} {tm0 : TM} {d : DS} {I : Nat → Bool} {E : Env} {F : Fx} {w0 w : World} {b : Frame} {tmps : Array Value} {df : List Deferred} {cs : List Frame}

theorem ev_anc (ok : ItsOk P ops its) (dc : Closed its I) {it : It} (hit : it ∈ its) (hI : I it.i = true) : ∀ j, it.anc.testBit j = true → I j = true :=
  anc_in ok dc (it.i + 1) it (Nat.lt_succ_self _) hit (dc it hit hI)

/-- what is written to a slot by items behind an item that is not done. -/
theorem post_clear (ok : ItsOk P ops its) (sl : slotOk ops its = true) (dc : Closed its I) (g : Good fr ops its tm0 d) {post pre : List Ev} {e : Ev} (h : d.evs = post ++ e :: pre) (hI : I e.it.i = false) {t : Nat}
    (hr : t ∈ tmpsOf ops e.it.o ∨ e.it.o.dst = some t) : ∀ e' ∈ post, I e'.it.i = true → e'.it.o.dst ≠ some t := by
  intro e' he' hI' hd
  obtain ⟨n1, n2⟩ := g.once h e' he'
  have m1 := g.mem e (by rw [h]; simp)
  have m2 := g.mem e' (by rw [h]; simp [he'])
  rcases slot_spec sl m1 m2 (fun q => n1 q.symm) hd hr with h1 | h1
  · obtain ⟨e'', h2, h3⟩ := (g.split post e pre h).1 _ h1
    exact n2 e'' h2 h3.symm
  · have := ev_anc ok dc m2 hI' _ h1
    rw [hI] at this; cases this

theorem pend_get (ok : ItsOk P ops its) (sl : slotOk ops its = true) (dc : Closed its I) (v : INV P gl fr ops its tm0 d I E F w0 w b tmps df cs) {e : Ev} (he : e ∈ d.evs) (hI : I e.it.i = false) (ha : ∀ j, e.it.anc.testBit j = true → I j = true) :
    ∀ t u, tg e.tmr t = some u → tg (tmOf I tm0 d.evs) t = some u := by
  intro t u hu
  obtain ⟨post, pre, heq⟩ := List.append_of_mem he
  obtain ⟨s1, s2, s3, s4, s5, s6⟩ := v.good.split post e pre heq
  obtain ⟨ht, hg⟩ := s3 t u hu
  rw [heq, tmOf_skip post (post_clear ok sl dc v.good heq hI (.inl ht))]
  simp only [tmOf, hI, Bool.false_eq_true, if_false]
  rw [tmOf_same (J := fun _ => true) pre (fun e' h' hd => ?_)]
  · exact hg
  · have m1 := v.good.mem e he
    have m2 := v.good.mem e' (by rw [heq]; simp [h'])
    rcases slot_spec sl m1 m2 (fun q => s2 e' h' q.symm) hd (.inl ht) with h1 | h1
    · exact ha _ h1
    · exfalso
      obtain ⟨p1, p2, hp⟩ := List.append_of_mem h'
      obtain ⟨q1, q2, _⟩ := v.good.split (post ++ e :: p1) e' p2 (by rw [heq, hp]; simp)
      obtain ⟨e'', h2, h3⟩ := q1 _ h1
      exact s2 e'' (by rw [hp]; simp [h2]) h3

theorem pend_TR (ok : ItsOk P ops its) (sl : slotOk ops its = true) (dc : Closed its I) (v : INV P gl fr ops its tm0 d I E F w0 w b tmps df cs) {e : Ev} (he : e ∈ d.evs) (hI : I e.it.i = false) (ha : ∀ j, e.it.anc.testBit j = true → I j = true) : TR E F.loc fr.nt e.tmr tmps :=
  ⟨v.st.tr.1, fun t u hu => v.st.tr.2 t u (pend_get ok sl dc v he hI ha t u hu)⟩

theorem ins_TR (ok : ItsOk P ops its) (sl : slotOk ops its = true) (dc : Closed its I) (v : INV P gl fr ops its tm0 d I E F w0 w b tmps df cs) {E' : Env} (hE : E.le E') {e : Ev} (he : e ∈ d.evs) (hI : I e.it.i = false) {v' : Value} (hv : TVR E' F.loc e.v v') :
    TR E' F.loc fr.nt (tmOf (ins I e.it.i) tm0 d.evs) (putA tmps e.it.o.dst v') := by
  obtain ⟨post, pre, heq⟩ := List.append_of_mem he
  have honce := v.good.once heq
  have s2 := (v.good.split post e pre heq).2.1
  have same : ∀ e' ∈ post, ins I e.it.i e'.it.i = I e'.it.i := by
    intro e' h'; unfold ins; rw [if_neg (honce e' h').1]
  have tr := v.st.tr
  have key : ∀ t, e.it.o.dst ≠ some t → tg (tmOf (ins I e.it.i) tm0 d.evs) t = tg (tmOf I tm0 d.evs) t := by
    intro t ht
    refine tmOf_same d.evs fun e' h' hd => ?_
    unfold ins
    split
    · rename_i q
      exfalso
      rw [heq] at h'
      rcases List.mem_append.1 h' with h' | h'
      · exact (honce e' h').1 q
      · cases h' with
        | head => exact ht hd
        | tail _ h' => exact s2 e' h' q
    · rfl
  refine ⟨?_, fun t u hu => ?_⟩
  · cases e.it.o.dst with
    | none => exact tr.1
    | some q => simp only [putA, Array.size_setIfInBounds]; exact tr.1
  · by_cases hd : e.it.o.dst = some t
    · have hg : tg (tmOf (ins I e.it.i) tm0 d.evs) t = some e.v := by
        rw [heq, tmOf_skip post (fun e' h' hI' => ?_)]
        · simp only [tmOf]
          rw [if_pos (by unfold ins; rw [if_pos rfl]), putE_get, if_pos hd]
        · rw [same e' h'] at hI'
          exact post_clear ok sl dc v.good heq hI (.inr hd) e' h' hI'
      rw [hg] at hu
      cases hu
      refine ⟨v', ?_, hv⟩
      rw [hd]
      simp only [putA, Array.getElem?_setIfInBounds, if_true]
      rw [if_pos (by rw [tr.1]; exact v.good.dst e he t hd)]
    · rw [key t hd] at hu
      obtain ⟨u', h1, h2⟩ := tr.2 t u hu
      refine ⟨u', ?_, h2.mono hE (fun _ _ e => e)⟩
      cases hq : e.it.o.dst with
      | none => exact h1
      | some q =>
        simp only [putA, Array.getElem?_setIfInBounds]
        rw [if_neg (fun z => hd (by rw [hq, z]))]; exact h1

theorem pend_done (ok : ItsOk P ops its) (sl : slotOk ops its = true) (dc : Closed its I) (v : INV P gl fr ops its tm0 d I E F w0 w b tmps df cs) (lt : Lights P gl fr d I) {e : Ev} (he : e ∈ d.evs) (hI : I e.it.i = false)
    (hc : e.it.c < 3) (ha : ∀ j, e.it.anc.testBit j = true → I j = true) (k : List Item) (rest : List Nat) :
    ∃ E' F' w' v', E.le E' ∧ (∀ x, x < d.s.h.nxt → E'.ob x ≠ E.ob x → x = e.b ∧ e.k = 2) ∧ F'.loc = F.loc ∧ F'.prot = F.prot ∧ INV P gl fr ops its tm0 d (ins I e.it.i) E' F' w0 w' b (putA tmps e.it.o.dst v') df cs ∧
      step P (lone (mkF b tmps (.inRegion ops (e.it.i :: rest) :: k) df) cs w) = .next (lone (mkF b (putA tmps e.it.o.dst v') (.inRegion ops rest :: k) df) cs w') := by
  have hop := ok.op e.it (v.good.mem e he)
  have tre := pend_TR ok sl dc v he hI ha
  obtain ⟨post, pre, heq⟩ := List.append_of_mem he
  obtain ⟨s1, s2, s3, s4, s5, s6⟩ := v.good.split post e pre heq
  have hk := v.kc e he hc
  have hk4 := v.kk e he
  -- what the new state is, for any new places
  have fin : ∀ (E' : Env) (F' : Fx) (w' : World) (v' : Value), E.le E' → (∀ x, x < d.s.h.nxt → E'.ob x ≠ E.ob x → x = e.b ∧ e.k = 2) → F'.loc = F.loc → MR E' F' d.s.h w0 w' → TVR E' F.loc e.v v' → INV P gl fr ops its tm0 d (ins I e.it.i) E' F' w0 w' b (putA tmps e.it.o.dst v') df cs := by
    intro E' F' w' v' hle hx hF m hv
    have hins : ∀ i, ins I e.it.i i = false → I i = false ∧ i ≠ e.it.i := by
      intro i hi; unfold ins at hi; split at hi
      · cases hi
      · rename_i q; exact ⟨hi, q⟩
    refine ⟨v.good, ⟨m, by rw [hF]; exact ins_TR ok sl dc v hle he hI hv, v.st.dr.mono fun _ _ => ADR.mono hle, v.st.uk.mono hle, v.st.fr.mono hle, v.st.gl.mono hle⟩, fun i hi => ?_, fun e' h' hh => ?_, v.kc, v.kk, v.nd, fun e' h' hh hk2 => ?_, fun e' h' hh hk2 => v.list e' h' (hins _ hh).1 hk2⟩
    · unfold ins at hi
      split at hi
      · rename_i q; exact ⟨e, he, q.symm⟩
      · exact v.sub i hi
    · unfold ins; split
      · rfl
      · exact v.heavy e' h' hh
    · obtain ⟨g1, g2⟩ := hins _ hh
      obtain ⟨ob, u, a0, a1, a2, a3, a4, a5⟩ := v.alloc e' h' g1 hk2
      refine ⟨ob, u, a0, ?_, a2, a3, a4, a5⟩
      by_cases q : E'.ob e'.b = E.ob e'.b
      · rw [q]; exact a1
      · exfalso
        obtain ⟨q1, q2⟩ := hx _ (v.good.bb e' h' hk2) q
        rw [heq] at h'
        rcases List.mem_append.1 h' with h' | h'
        · obtain ⟨p1, p2, hp⟩ := List.append_of_mem h'
          rcases (v.good.split p1 e' (p2 ++ e :: pre) (by rw [heq, hp]; simp)).2.2.2.1 e (by simp) q2 with g | g
          · omega
          · exact g hk2
        · cases h' with
          | head => exact g2 rfl
          | tail _ h' =>
            rcases s4 e' h' hk2 with g | g
            · omega
            · exact g q2
  have notdef : b.roundOf = none ∨ ∀ c, e.it.o.op ≠ .defer c := .inr (v.nd e he hc)
  by_cases k0 : e.k = 0
  · obtain ⟨hw, hv⟩ := s5 k0
    have hw' := wanted_sound hw tre
    refine ⟨E, F, w, undef, Env.le_refl E, fun x _ hx => absurd rfl hx, rfl, rfl, fin E F w undef (Env.le_refl E) (fun x _ hx => absurd rfl hx) rfl v.st.mr (by rw [hv]; exact .v _ _ (.tup [] #[] .nil)), st_op_skip hop hw'⟩
  · have hw' := wanted_sound (s6 k0) tre
    by_cases k1 : e.k = 1
    · obtain ⟨v', h1, h2⟩ := lt e he hI k1 E F w0 w tmps v.st.mr v.st.gl tre
      exact ⟨E, F, w, v', Env.le_refl E, fun x _ hx => absurd rfl hx, rfl, rfl, fin E F w v' (Env.le_refl E) (fun x _ hx => absurd rfl hx) rfl v.st.mr h2, st_val hop hw' notdef h1⟩
    · by_cases k2 : e.k = 2
      · obtain ⟨ob, u, a0, a1, a2, a3, a4, a5⟩ := v.alloc e he hI k2
        obtain ⟨v', cob, n, p, h1, h2, h3, h4⟩ := a5 E F.loc w tmps v.st.gl tre
        have hle := updE_le (p := p) a1
        have m2 := (v.st.mr.drawn n).place a3 a1 a2 a4 cob h2 (h3.mono hle)
        have hx : ∀ x, x < d.s.h.nxt → (updE E e.b p).ob x ≠ E.ob x → x = e.b ∧ e.k = 2 := by
          intro x _ hx
          simp only [updE] at hx
          split at hx
          · rename_i q; exact ⟨q, k2⟩
          · exact absurd rfl hx
        exact ⟨updE E e.b p, { F with own := updO F.own w.heap.size (.ob e.b) }, _, v', hle, hx, rfl, rfl, fin _ { F with own := updO F.own w.heap.size (.ob e.b) } _ v' hle hx rfl m2 (by rw [a0]; exact .v _ _ (h4 _ (by simp [updE]))), st_val hop hw' notdef h1⟩
      · have k4 : e.k = 4 := by omega
        obtain ⟨u, a0, a1⟩ := v.list e he hI k4
        obtain ⟨v', c, el, q, n, cnt, h1, h2⟩ := a1 E F.loc w tmps v.st.gl tre
        have md := v.st.mr.drawn n
        have hle := md.updZ_le cnt c
        have m2 := md.frozen cnt c el q .fz (.inl rfl)
        have hfz : ∀ i x, i < cnt → c[i]? = some x → (updZ E w.heap.size cnt c).fz w.heap.size i = some x := by
          intro i x hi hx
          simp only [updZ, if_true]; rw [if_pos hi]; exact hx
        exact ⟨updZ E w.heap.size cnt c, { F with own := updO F.own w.heap.size .fz }, _, v', hle, fun x _ hx => absurd rfl hx, rfl, rfl, fin _ { F with own := updO F.own w.heap.size .fz } _ v' hle (fun x _ hx => absurd rfl hx) rfl m2 (by rw [a0]; exact .v _ _ (h2 _ hle hfz)), st_val hop hw' notdef h1⟩
end
end Go.VM
