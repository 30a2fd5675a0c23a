/- The machine of values: regions whose order is drawn: the steps of them. -/
import Derived.Test.YtdmpeinbbcjamaaVmDrawn1
set_option linter.unusedVariables false
set_option linter.unusedSimpArgs false
namespace Go.VM
open Go.RowKit

theorem TR.congr {E : Env} {L : Nat → Option Place} {nt : Nat} {tm tm' : TM} {tmps : Array Value} (h : ∀ t, tg tm' t = tg tm t) (r : TR E L nt tm tmps) : TR E L nt tm' tmps :=
  ⟨r.1, fun t v ht => r.2 t v (by rw [← h t]; exact ht)⟩

/-- items that are done in one go, each in its turn: none of them heavy. -/
inductive Ph (P : Program) (gl : List Nat) (fr : Fr) (ops : Array Oper) (its : List It) : DS → DS → Prop where
  | nil (d : DS) : Ph P gl fr ops its d d
  | skip (it : It) {d d1 d2 : DS} (hit : it ∈ its) (hc : Nat.blt it.c 3 = true) (ht : turnOk d it = true) (hw : wantedA ops it.o (tsub d.s.tm (tmpsOf ops it.o)) = some false)
      (ha : d.add fr it (tsub d.s.tm (tmpsOf ops it.o)) 0 (.v undefV) d.s = some d1) (next : Ph P gl fr ops its d1 d2) : Ph P gl fr ops its d d2
  | light (it : It) {v : TV} {d d1 d2 : DS} (hit : it ∈ its) (hc : Nat.blt it.c 3 = true) (ht : turnOk d it = true) (hw : wantedA ops it.o (tsub d.s.tm (tmpsOf ops it.o)) = some true)
      (hl : Light P gl fr.nt (tsub d.s.tm (tmpsOf ops it.o)) d.s.h it.o v)
      (ha : d.add fr it (tsub d.s.tm (tmpsOf ops it.o)) 1 v d.s = some d1) (next : Ph P gl fr ops its d1 d2) : Ph P gl fr ops its d d2
  | obj (it : It) {ob : Obj} {v : V} {d d1 d2 : DS} (hit : it ∈ its) (hc : Nat.blt it.c 3 = true) (ht : turnOk d it = true) (hw : wantedA ops it.o (tsub d.s.tm (tmpsOf ops it.o)) = some true)
      (hl : AllocO P gl fr.nt (tsub d.s.tm (tmpsOf ops it.o)) it.o d.s.h.nxt ob v ∧ ∀ n, ob ≠ .tok n)
      (ha : d.add fr it (tsub d.s.tm (tmpsOf ops it.o)) 2 (.v v) { d.s with h := d.s.h.new ob } = some d1) (next : Ph P gl fr ops its d1 d2) : Ph P gl fr ops its d d2
  | list (it : It) {v : V} {d d1 d2 : DS} (hit : it ∈ its) (hc : Nat.blt it.c 3 = true) (ht : turnOk d it = true) (hw : wantedA ops it.o (tsub d.s.tm (tmpsOf ops it.o)) = some true)
      (hl : AllocF P gl fr.nt (tsub d.s.tm (tmpsOf ops it.o)) it.o v)
      (ha : d.add fr it (tsub d.s.tm (tmpsOf ops it.o)) 4 (.v v) d.s = some d1) (next : Ph P gl fr ops its d1 d2) : Ph P gl fr ops its d d2

/-- what may be looked at later is as it was. -/
inductive Pend (P : Program) (gl : List Nat) (fr : Fr) (h : H) (anc : Nat) : List Ev → Prop where
  | nil : Pend P gl fr h anc []
  | pass {e : Ev} {es : List Ev} (hp : (!Nat.beq e.k 1 || anc.testBit e.it.i) = true) (next : Pend P gl fr h anc es) : Pend P gl fr h anc (e :: es)
  | light {e : Ev} {es : List Ev} (hl : Light P gl fr.nt e.tmr h e.it.o e.v) (next : Pend P gl fr h anc es) : Pend P gl fr h anc (e :: es)

theorem Pend.spec {P : Program} {gl : List Nat} {fr : Fr} {h : H} {anc : Nat} {es : List Ev} (p : Pend P gl fr h anc es) : ∀ e ∈ es, e.k = 1 → anc.testBit e.it.i = false → Light P gl fr.nt e.tmr h e.it.o e.v := by
  induction p with
  | nil => intro e he; cases he
  | pass hp _ ih =>
    intro e he hk ha
    cases he with
    | head => rw [hk, ha] at hp; cases hp
    | tail _ he => exact ih e he hk ha
  | light hl _ ih =>
    intro e he hk ha
    cases he with
    | head => exact hl
    | tail _ he => exact ih e he hk ha

def fullM (n : Nat) (d : DS) : Bool := Nat.beq d.mask (2 ^ n - 1)

/-- the heavy items one behind the other, and between them what else can be done. -/
inductive Dr (P : Program) (gl : List Nat) (fr : Fr) (ops : Array Oper) (its : List It) (x : X) (s' : S) : List It → DS → Prop where
  | fin {d : DS} (hx : x = .norm) (hs : s' = d.s) (hm : fullM ops.size d = true) : Dr P gl fr ops its x s' [] d
  | skip {it : It} {hs : List It} {d d1 d2 : DS} (ht : turnOk d it = true) (hwt : waits its it d = true) (hw : wantedA ops it.o (tsub d.s.tm (tmpsOf ops it.o)) = some false)
      (ha : d.add fr it (tsub d.s.tm (tmpsOf ops it.o)) 0 (.v undefV) d.s = some d1) (ph : Ph P gl fr ops its d1 d2) (pd : Pend P gl fr d2.s.h it.anc d2.evs) (next : Dr P gl fr ops its x s' hs d2) : Dr P gl fr ops its x s' (it :: hs) d
  | go {it : It} {hs : List It} {d d1 d2 : DS} {v : TV} {s2 : S} (ht : turnOk d it = true) (hwt : waits its it d = true) (hw : wantedA ops it.o (tsub d.s.tm (tmpsOf ops it.o)) = some true)
      (hop : OpR P gl fr it.o { d.s with tm := tsub d.s.tm (tmpsOf ops it.o) } (.val v s2))
      (ha : d.add fr it (tsub d.s.tm (tmpsOf ops it.o)) 3 v s2 = some d1) (ph : Ph P gl fr ops its d1 d2) (pd : Pend P gl fr d2.s.h it.anc d2.evs) (next : Dr P gl fr ops its x s' hs d2) : Dr P gl fr ops its x s' (it :: hs) d
  | stop {it : It} {hs : List It} {d : DS} {ch : List PE} {s2 : S} (ht : turnOk d it = true) (hwt : waits its it d = true) (hw : wantedA ops it.o (tsub d.s.tm (tmpsOf ops it.o)) = some true)
      (hop : OpR P gl fr it.o { d.s with tm := tsub d.s.tm (tmpsOf ops it.o) } (.pan ch s2)) (hx : x = .panic ch) (hse : s' = { s2 with tm := clearD d.s.tm its }) : Dr P gl fr ops its x s' (it :: hs) d

theorem Dr.head {P : Program} {gl : List Nat} {fr : Fr} {ops : Array Oper} {its : List It} {x : X} {s' : S} {it : It} {hs : List It} {d : DS} (h : Dr P gl fr ops its x s' (it :: hs) d) : turnOk d it = true ∧ waits its it d = true := by
  cases h with
  | skip ht hwt => exact ⟨ht, hwt⟩
  | go ht hwt => exact ⟨ht, hwt⟩
  | stop ht hwt => exact ⟨ht, hwt⟩

theorem cls_nd {P : Program} {o : Oper} (h : cls P o < 3) : ∀ c, o.op ≠ .defer c := by
  intro c e
  unfold cls at h
  rw [e] at h
  simp at h

section
variable {P : Program} {gl : List Nat} {fr : Fr} {ops : Array Oper} {its : List It} {tm0 : TM} {I : Nat → Bool} {E E0 : Env} {F : Fx} {h0 : H} {w0 w : World} {b : Frame} {tmps : Array Value} {df : List Deferred} {cs : List Frame}

/-- what was made since the region began. -/
def Based (h0 : H) (d : DS) : Prop := ∀ e ∈ d.evs, e.k = 2 → h0.nxt ≤ e.b

theorem notin_I {d : DS} (v : INV P gl fr ops its tm0 d I E F w0 w b tmps df cs) {it : It} (ht : turnOk d it = true) : I it.i = false := by
  cases hI : I it.i with
  | false => rfl
  | true =>
    obtain ⟨e, he, hi⟩ := v.sub _ hI
    have := (v.good.mask it.i).2 ⟨e, he, hi⟩
    rw [(turn_spec ht).2] at this; cases this

theorem ph_inv (ok : ItsOk P ops its) {d d' : DS} (p : Ph P gl fr ops its d d') : INV P gl fr ops its tm0 d I E F w0 w b tmps df cs → Ext E0 h0 E d.s.h → Based h0 d →
    INV P gl fr ops its tm0 d' I E F w0 w b tmps df cs ∧ Ext E0 h0 E d'.s.h ∧ Based h0 d' ∧ d'.s.u = d.s.u := by
  -- one item more
  have core : ∀ (it : It) (d d' : DS) (k : Nat) (u : TV) (h' : H), it ∈ its → it.c < 3 → INV P gl fr ops its tm0 d I E F w0 w b tmps df cs → Ext E0 h0 E d.s.h → Based h0 d → turnOk d it = true → Good fr ops its tm0 d' →
      d'.evs = ⟨it, tsub d.s.tm (tmpsOf ops it.o), k, u, d.s.h.nxt⟩ :: d.evs → d'.s.h = h' → d'.s.df = d.s.df → d'.s.u = d.s.u → k ≤ 4 → k ≠ 3 →
      MR E F h' w0 w → Ext E d.s.h E h' → (k = 2 → ∃ ob v, u = .v v ∧ E.ob d.s.h.nxt = none ∧ glim ≤ d.s.h.nxt ∧ h'.ob d.s.h.nxt = some ob ∧ (∀ n, ob ≠ .tok n) ∧ AllocO P gl fr.nt (tsub d.s.tm (tmpsOf ops it.o)) it.o d.s.h.nxt ob v) →
      (k = 4 → ∃ v, u = .v v ∧ AllocF P gl fr.nt (tsub d.s.tm (tmpsOf ops it.o)) it.o v) →
      INV P gl fr ops its tm0 d' I E F w0 w b tmps df cs ∧ Ext E0 h0 E d'.s.h ∧ Based h0 d' ∧ d'.s.u = d.s.u := by
    intro it d d' k u h' hit hc v x bs ht g hev hh hdf hu hk hk3 m1 x1 hal hli
    have hI := notin_I v ht
    refine ⟨⟨g, ?_, fun i hi => ?_, fun e he h3 => ?_, fun e he h3 => ?_, fun e he => ?_, fun e he h3 => ?_, fun e he hIe h2 => ?_, fun e he hIe h4 => ?_⟩, ?_, fun e he h2 => ?_, hu⟩
    · rw [hev]
      simp only [tmOf, hI, Bool.false_eq_true, if_false]
      exact ⟨by rw [show ({ d'.s with tm := tmOf I tm0 d.evs } : S).h = h' from hh]; exact m1, v.st.tr, by rw [show ({ d'.s with tm := tmOf I tm0 d.evs } : S).df = d.s.df from hdf]; exact v.st.dr, by rw [show ({ d'.s with tm := tmOf I tm0 d.evs } : S).u = d.s.u from hu]; exact v.st.uk, v.st.fr, v.st.gl⟩
    · obtain ⟨e, he, q⟩ := v.sub i hi
      exact ⟨e, by rw [hev]; exact List.mem_cons_of_mem _ he, q⟩
    · rw [hev] at he
      cases he with
      | head => exact absurd h3 (by simpa using hc)
      | tail _ he => exact v.heavy e he h3
    · rw [hev] at he
      cases he with
      | head => exact hk3
      | tail _ he => exact v.kc e he h3
    · rw [hev] at he
      cases he with
      | head => exact hk
      | tail _ he => exact v.kk e he
    · rw [hev] at he
      cases he with
      | head => exact cls_nd (by rw [← ok.cl it hit]; exact hc)
      | tail _ he => exact v.nd e he h3
    · rw [hev] at he
      rw [hh]
      cases he with
      | head => exact hal h2
      | tail _ he =>
        obtain ⟨ob, u', a0, a1, a2, a3, a4, a5⟩ := v.alloc e he hIe h2
        exact ⟨ob, u', a0, a1, a2, x1.ghost e.b ob (v.good.bb e he h2) a1 a3 a4, a4, a5⟩
    · rw [hev] at he
      cases he with
      | head => exact hli h4
      | tail _ he => exact v.list e he hIe h4
    · rw [hh]; exact x.trans x1
    · rw [hev] at he
      cases he with
      | head => exact x.nxt
      | tail _ he => exact bs e he h2
  induction p with
  | nil d => intro v x bs; exact ⟨v, x, bs, rfl⟩
  | @skip it d d1 d2 hit hc ht hw ha next ih =>
    intro v x bs
    obtain ⟨g, tm, h1, h2⟩ := Good.add (k := 0) (v := .v undefV) (s := d.s) v.good hit ht ha rfl (Nat.le_refl _) (fun q => by cases q) (fun _ => ⟨hw, rfl⟩) (fun q => absurd rfl q)
    obtain ⟨v1, x1, b1, u1⟩ := core it d d1 0 (.v undefV) d.s.h hit (by rwa [Nat.blt_eq] at hc) v x bs ht g (by rw [h2]) (by rw [h2]) (by rw [h2]) (by rw [h2]) (by omega) (by omega) v.st.mr (Ext.refl _ _) (fun q => by cases q) (fun q => by cases q)
    obtain ⟨v2, x2, b2, u2⟩ := ih v1 x1 b1
    exact ⟨v2, x2, b2, u2.trans u1⟩
  | @light it u d d1 d2 hit hc ht hw hl ha next ih =>
    intro v x bs
    obtain ⟨g, tm, h1, h2⟩ := Good.add (k := 1) (v := u) (s := d.s) v.good hit ht ha rfl (Nat.le_refl _) (fun q => by cases q) (fun q => by cases q) (fun _ => hw)
    obtain ⟨v1, x1, b1, u1⟩ := core it d d1 1 u d.s.h hit (by rwa [Nat.blt_eq] at hc) v x bs ht g (by rw [h2]) (by rw [h2]) (by rw [h2]) (by rw [h2]) (by omega) (by omega) v.st.mr (Ext.refl _ _) (fun q => by cases q) (fun q => by cases q)
    obtain ⟨v2, x2, b2, u2⟩ := ih v1 x1 b1
    exact ⟨v2, x2, b2, u2.trans u1⟩
  | @obj it ob u d d1 d2 hit hc ht hw hl ha next ih =>
    intro v x bs
    obtain ⟨hl, hnt⟩ := hl
    obtain ⟨m1, x1, hEb, hget⟩ := v.st.mr.ghost ob (fun n e => absurd e (hnt n))
    obtain ⟨g, tm, h1, h2⟩ := Good.add (k := 2) (v := .v u) (s := { d.s with h := d.s.h.new ob }) v.good hit ht ha rfl x1.nxt (fun _ => Nat.lt_succ_self _) (fun q => by cases q) (fun _ => hw)
    obtain ⟨v1, x1, b1, u1⟩ := core it d d1 2 (.v u) (d.s.h.new ob) hit (by rwa [Nat.blt_eq] at hc) v x bs ht g (by rw [h2]) (by rw [h2]) (by rw [h2]) (by rw [h2]) (by omega) (by omega) m1 x1
      (fun _ => ⟨ob, u, rfl, hEb, v.st.mr.glo, hget, hnt, hl⟩) (fun q => by cases q)
    obtain ⟨v2, x2, b2, u2⟩ := ih v1 x1 b1
    exact ⟨v2, x2, b2, u2.trans u1⟩
  | @list it u d d1 d2 hit hc ht hw hl ha next ih =>
    intro v x bs
    obtain ⟨g, tm, h1, h2⟩ := Good.add (k := 4) (v := .v u) (s := d.s) v.good hit ht ha rfl (Nat.le_refl _) (fun q => by cases q) (fun q => by cases q) (fun _ => hw)
    obtain ⟨v1, x1, b1, u1⟩ := core it d d1 4 (.v u) d.s.h hit (by rwa [Nat.blt_eq] at hc) v x bs ht g (by rw [h2]) (by rw [h2]) (by rw [h2]) (by rw [h2]) (by omega) (by omega) v.st.mr (Ext.refl _ _) (fun q => by cases q)
      (fun _ => ⟨u, rfl, hl⟩)
    obtain ⟨v2, x2, b2, u2⟩ := ih v1 x1 b1
    exact ⟨v2, x2, b2, u2.trans u1⟩

theorem clearD_get {its : List It} {tm : TM} {t : Nat} {u : TV} (h : tg (clearD tm its) t = some u) : tg tm t = some u ∧ ∀ it ∈ its, it.o.dst ≠ some t := by
  induction its generalizing tm with
  | nil => exact ⟨h, by simp⟩
  | cons it its ih =>
    simp only [clearD] at h
    split at h
    · rename_i q hq
      obtain ⟨a, c⟩ := ih h
      obtain ⟨a1, a2⟩ := tg_del a
      refine ⟨a1, fun i hi => ?_⟩
      cases hi with
      | head => rw [hq]; intro z; exact a2 (Option.some.inj z).symm
      | tail _ hi => exact c i hi
    · rename_i hq
      obtain ⟨a, c⟩ := ih h
      refine ⟨a, fun i hi => ?_⟩
      cases hi with
      | head => rw [hq]; simp
      | tail _ hi => exact c i hi

section heavy
variable {d : DS} {it : It}

/-- the slots that a heavy item reads. -/
theorem heavy_tr (sl : slotOk ops its = true) (v : INV P gl fr ops its tm0 d I E F w0 w b tmps df cs) (hit : it ∈ its) (ha : ∀ j, it.anc.testBit j = true → I j = true) (ht : turnOk d it = true) : TR E F.loc fr.nt (tsub d.s.tm (tmpsOf ops it.o)) tmps := by
  refine ⟨v.st.tr.1, fun t u hu => ?_⟩
  obtain ⟨h1, h2⟩ := tsub_get hu
  refine v.st.tr.2 t u ?_
  show tg (tmOf I tm0 d.evs) t = some u
  rw [v.good.tm] at h2
  rw [← h2]
  refine tmOf_same d.evs fun e' h' hd => ?_
  have hne : it.i ≠ e'.it.i := fun q => by
    have := (v.good.mask it.i).2 ⟨e', h', q.symm⟩
    rw [(turn_spec ht).2] at this; cases this
  rcases slot_spec sl hit (v.good.mem e' h') hne hd (.inl h1) with g | g
  · exact ha _ g
  · exfalso
    obtain ⟨post, pre, heq⟩ := List.append_of_mem h'
    obtain ⟨e2, g1, g2⟩ := (v.good.split post e' pre heq).1 _ g
    have := (v.good.mask it.i).2 ⟨e2, by rw [heq]; simp [g1], g2⟩
    rw [(turn_spec ht).2] at this; cases this

/-- what is so after a heavy item is done. -/
theorem heavy_fin (v : INV P gl fr ops its tm0 d I E F w0 w b tmps df cs) (x : Ext E0 h0 E d.s.h) (bs : Based h0 d) (hit : it ∈ its) (hc : 3 ≤ it.c) (ht : turnOk d it = true)
    {d' : DS} {kk : Nat} {u : TV} {s2 : S} {E' : Env} {F' : Fx} {df' : List Deferred} {cs' : List Frame} {w' : World} {v' : Value}
    (hadd : d.add fr it (tsub d.s.tm (tmpsOf ops it.o)) kk u s2 = some d') (hkk : kk = 0 ∨ kk = 3) (hz : kk = 0 → wantedA ops it.o (tsub d.s.tm (tmpsOf ops it.o)) = some false ∧ u = .v undefV)
    (hnz : kk ≠ 0 → wantedA ops it.o (tsub d.s.tm (tmpsOf ops it.o)) = some true) (x1 : Ext E d.s.h E' s2.h) (hF : F'.loc = F.loc) (m1 : MR E' F' s2.h w0 w') (dr : All₂ (ADR E') s2.df df') (uk : UK E' s2.u b.kind cs') (hv : TVR E' F'.loc u v') :
    Ext E0 h0 E' d'.s.h ∧ INV P gl fr ops its tm0 d' (ins I it.i) E' F' w0 w' b (putA tmps it.o.dst v') df' cs' ∧ Based h0 d' ∧ d'.s.u = s2.u ∧ (∃ e, d'.evs = e :: d.evs ∧ e.it = it) := by
  have hadd' : d.add fr it (tsub d.s.tm (tmpsOf ops it.o)) kk u { s2 with tm := d.s.tm } = some d' := hadd
  obtain ⟨g, tm, h1, h2⟩ := Good.add v.good hit ht hadd' rfl x1.nxt (fun q => by omega) hz hnz
  have hI := notin_I v ht
  have hev : d'.evs = ⟨it, tsub d.s.tm (tmpsOf ops it.o), kk, u, d.s.h.nxt⟩ :: d.evs := by rw [h2]
  have hh : d'.s.h = s2.h := by rw [h2]
  have hdf : d'.s.df = s2.df := by rw [h2]
  have hu : d'.s.u = s2.u := by rw [h2]
  have trI : TR E' F'.loc fr.nt (tmOf (ins I it.i) tm0 d.evs) tmps := by
    refine TR.congr (fun t => ?_) (v.st.tr.mono x1.le (fun _ _ e => by rw [hF]; exact e))
    refine tmOf_same d.evs fun e' h' _ => ?_
    unfold ins
    rw [if_neg]
    intro q
    have := (v.good.mask it.i).2 ⟨e', h', q⟩
    rw [(turn_spec ht).2] at this; cases this
  have hins : ∀ i, ins I it.i i = false → I i = false := by
    intro i hi; unfold ins at hi; split at hi
    · cases hi
    · exact hi
  refine ⟨by rw [hh]; exact x.trans x1, ⟨g, ?_, fun i hi => ?_, fun e he h3 => ?_, fun e he h3 => ?_, fun e he => ?_, fun e he h3 => ?_, fun e he hIe hk => ?_, fun e he hIe hk => ?_⟩, fun e he hk => ?_, hu, ⟨_, hev, rfl⟩⟩
  · refine ⟨by rw [show ({ d'.s with tm := tmOf (ins I it.i) tm0 d'.evs } : S).h = s2.h from hh]; exact m1, ?_, by rw [show ({ d'.s with tm := tmOf (ins I it.i) tm0 d'.evs } : S).df = s2.df from hdf]; exact dr, by rw [show ({ d'.s with tm := tmOf (ins I it.i) tm0 d'.evs } : S).u = s2.u from hu]; exact uk, v.st.fr.mono x1.le, v.st.gl.mono x1.le⟩
    show TR E' F'.loc fr.nt (tmOf (ins I it.i) tm0 d'.evs) _
    rw [hev]
    simp only [tmOf]
    rw [if_pos (by unfold ins; rw [if_pos rfl])]
    refine put_TR (v := u) trI ?_ hv
    unfold putE
    cases hd : it.o.dst with
    | none => rfl
    | some q =>
      rw [hd] at h1
      simp only [putT] at h1 ⊢
      split at h1
      · rename_i hb; simp only [hb]
      · cases h1
  · unfold ins at hi
    split at hi
    · rename_i q; exact ⟨_, by rw [hev]; exact List.mem_cons_self .., q.symm⟩
    · obtain ⟨e, he, q⟩ := v.sub i hi; exact ⟨e, by rw [hev]; exact List.mem_cons_of_mem _ he, q⟩
  · rw [hev] at he
    unfold ins; split
    · rfl
    · rename_i hne
      cases he with
      | head => exact absurd rfl hne
      | tail _ he => exact v.heavy e he h3
  · rw [hev] at he
    cases he with
    | head => exact absurd hc (by simpa using h3)
    | tail _ he => exact v.kc e he h3
  · rw [hev] at he
    cases he with
    | head => show kk ≤ 4; omega
    | tail _ he => exact v.kk e he
  · rw [hev] at he
    cases he with
    | head => exact absurd hc (by simpa using h3)
    | tail _ he => exact v.nd e he h3
  · rw [hev] at he
    rw [hh]
    cases he with
    | head => have hk : kk = 2 := hk; omega
    | tail _ he =>
      obtain ⟨ob, u', a0, a1, a2, a3, a4, a5⟩ := v.alloc e he (hins _ hIe) hk
      have hlt := v.good.bb e he hk
      exact ⟨ob, u', a0, (x1.old _ hlt).trans a1, a2, x1.ghost _ ob hlt a1 a3 a4, a4, a5⟩
  · rw [hev] at he
    cases he with
    | head => have hk : kk = 4 := hk; omega
    | tail _ he => exact v.list e he (hins _ hIe) hk
  · rw [hev] at he
    cases he with
    | head => have hk : kk = 2 := hk; omega
    | tail _ he => exact bs e he hk
end heavy
end
end Go.VM
