/- The abstract machine: regions whose order is drawn: phases and heavy items. -/
import Derived.Test.YtaednlggmjlaaaaGreatDoorAmDrawn3
set_option linter.unusedVariables false
set_option linter.unusedSimpArgs false
namespace Go.AM
noncomputable section
open Go.RowKit

theorem TR.congr {E : Env} {nt : Nat} {tm tm' : T V} {tmps : Array Value} (h : ∀ t, tm'.get t = tm.get t) (r : TR E nt tm tmps) : TR E nt tm' tmps :=
  ⟨r.1, fun t v ht => r.2 t v (by rw [← h t]; exact ht)⟩

theorem alight_pure {P : Program} {gl : List Nat} {tm : T V} {h h' : H} {o : Oper} (hp : pureOp o = true) : alight P gl tm h o = alight P gl tm h' o := by
  obtain ⟨dst, op, ty, pos, after, guard⟩ := o
  cases op <;> first | rfl | (simp [pureOp] at hp; done) | (rename_i fn _ _; cases fn <;> rfl)

theorem pendOk_spec {C : Cfg} {h : H} {anc : Nat} : ∀ {evs : List Ev}, pendOk C h anc evs = true → (∀ e ∈ evs, e.k = 1 → pureOp e.it.o = true → ∀ h, alight C.P C.gl e.tmr h e.it.o = some e.v) → ∀ e ∈ evs, e.k = 1 → anc.testBit e.it.i = false → alight C.P C.gl e.tmr h e.it.o = some e.v
  | [], _, _, _, he => by cases he
  | x :: xs, hp, pu, e, he => by
    intro hk ha
    simp only [pendOk_c, Bool.and_eq_true, Bool.or_eq_true, Bool.not_eq_true'] at hp
    cases he with
    | tail _ he => exact pendOk_spec hp.2 (fun e he => pu e (List.mem_cons_of_mem _ he)) e he hk ha
    | head =>
      rcases hp.1 with ((h1 | h1) | h1) | h1
      · rw [hk] at h1; cases h1
      · exact pu x (List.mem_cons_self ..) hk h1 h
      · rw [ha] at h1; cases h1
      · split at h1
        · rename_i v hv; rw [hv, V.beq_eq _ _ h1]
        · cases h1

section
variable {C : Cfg} {fr : Fr} {ops : Array Oper} {its : List It} {tm0 : T V} {I : Nat → Bool} {E E0 : Env} {h0 : H} {w0 w : World} {b : Frame} {tmps : Array Value} {df : List Deferred} {cs : List Frame}

/-- what was made since the region began. -/
def Based (h0 : H) (d : DS) : Prop := ∀ e ∈ d.evs, e.k = 2 → h0.nxt ≤ e.b

theorem notin_I {d : DS} (v : INV C fr ops its tm0 d I E w0 w b tmps df cs) {it : It} (ht : turnOk d it = true) : I it.i = false := by
  cases hI : I it.i with
  | false => rfl
  | true =>
    obtain ⟨e, he, hi⟩ := v.sub _ hI
    have := (v.good.mask it.i).2 ⟨e, he, hi⟩
    rw [(turn_spec ht).2] at this; cases this

theorem item1_inv {d d' : DS} {it : It} (hit : it ∈ its) (hc : it.c < 3) (h : item1 C fr ops it d = some d') (v : INV C fr ops its tm0 d I E w0 w b tmps df cs) (x : Ext E0 h0 E d.s.h) (bs : Based h0 d) :
    INV C fr ops its tm0 d' I E w0 w b tmps df cs ∧ Ext E0 h0 E d'.s.h ∧ Based h0 d' ∧ d'.s.u = d.s.u := by
  have core : ∀ (k : Nat) (u : V) (h' : H), turnOk d it = true → Good fr ops its tm0 d' → d'.s.tm = d'.s.tm → d'.evs = ⟨it, AM.sub d.s.tm (tmpsOf ops it.o), k, u, d.s.h.nxt⟩ :: d.evs → d'.s.h = h' → d'.s.df = d.s.df → d'.s.u = d.s.u → k ≤ 2 →
      MR E h' w0 w → Ext E d.s.h E h' → (k = 1 → pureOp it.o = true → ∀ h, alight C.P C.gl (AM.sub d.s.tm (tmpsOf ops it.o)) h it.o = some u) → (k = 2 → ∃ ob, E d.s.h.nxt = none ∧ glim ≤ d.s.h.nxt ∧ h'.get d.s.h.nxt = some ob ∧ AllocR C.P C.gl fr.nt (AM.sub d.s.tm (tmpsOf ops it.o)) it.o d.s.h.nxt ob u) →
      INV C fr ops its tm0 d' I E w0 w b tmps df cs ∧ Ext E0 h0 E d'.s.h ∧ Based h0 d' ∧ d'.s.u = d.s.u := by
    intro k u h' ht g _ hev hh hdf hu hk m1 x1 hpu hal
    have hI := notin_I v ht
    refine ⟨⟨g, ?_, fun i hi => ?_, fun e he h3 => ?_, fun e he h3 => ?_, fun e he hk1 hp => ?_, fun e he hIe h2 => ?_⟩, ?_, fun e he h2 => ?_, hu⟩
    · rw [hev]
      simp only [tmOf, hI, Bool.false_eq_true, if_false]
      exact ⟨by rw [show ({ d'.s with tm := tmOf I tm0 d.evs } : S).h = h' from hh]; exact m1, v.st.tr, by rw [show ({ d'.s with tm := tmOf I tm0 d.evs } : S).df = d.s.df from hdf]; exact v.st.dr, by rw [show ({ d'.s with tm := tmOf I tm0 d.evs } : S).u = d.s.u from hu]; exact v.st.uk, v.st.fr, v.st.gl⟩
    · obtain ⟨e, he, q⟩ := v.sub i hi
      exact ⟨e, by rw [hev]; exact List.mem_cons_of_mem _ he, q⟩
    · rw [hev] at he
      cases he with
      | head => exact absurd h3 (by simpa using hc)
      | tail _ he => exact v.heavy e he h3
    · rw [hev] at he
      cases he with
      | head => exact hk
      | tail _ he => exact v.kc e he h3
    · rw [hev] at he
      cases he with
      | head => exact hpu hk1 hp
      | tail _ he => exact v.pur e he hk1 hp
    · rw [hev] at he
      rw [hh]
      cases he with
      | head => exact hal h2
      | tail _ he =>
        obtain ⟨ob, a1, a2, a3, a4⟩ := v.alloc e he hIe h2
        exact ⟨ob, a1, a2, (x1.ghost e.b (v.good.bb e he h2) a1).trans a3, a4⟩
    · rw [hh]; exact x.trans x1
    · rw [hev] at he
      cases he with
      | head => exact x.nxt
      | tail _ he => exact bs e he h2
  unfold item1 at h
  simp only at h
  split at h
  · rename_i ht hw
    obtain ⟨g, tm, h1, h2⟩ := Good.add (k := 0) (v := undefV) (s := d.s) v.good hit ht h rfl (Nat.le_refl _) (fun q => by cases q) (fun _ => ⟨hw, rfl⟩) (fun q => absurd rfl q)
    exact core 0 undefV d.s.h ht g rfl (by rw [h2]) (by rw [h2]) (by rw [h2]) (by rw [h2]) (by omega) v.st.mr (Ext.refl _ _) (fun q => by cases q) (fun q => by cases q)
  · rename_i ht hw
    split at h
    · split at h
      · rename_i u h' ha
        obtain ⟨bb, ob, hn, har⟩ := alloc_sound (nt := fr.nt) ha
        obtain ⟨m1, x1, hEb, hget, hlt, hgb, hbn⟩ := ghost_new v.st.mr hn
        have hbn' : bb = d.s.h.nxt := hbn
        obtain ⟨g, tm, h1, h2⟩ := Good.add (k := 2) (v := u) (s := { d.s with h := h' }) v.good hit ht h rfl x1.nxt (fun _ => by rw [← hbn']; exact hlt) (fun q => by cases q) (fun _ => hw)
        exact core 2 u h' ht g rfl (by rw [h2]) (by rw [h2]) (by rw [h2]) (by rw [h2]) (by omega) m1 x1 (fun q => by cases q) (fun _ => by
          rw [← hbn']; exact ⟨ob, hEb, hgb, hget, har⟩)
      · cases h
    · split at h
      · rename_i u ha
        obtain ⟨g, tm, h1, h2⟩ := Good.add (k := 1) (v := u) (s := d.s) v.good hit ht h rfl (Nat.le_refl _) (fun q => by cases q) (fun q => by cases q) (fun _ => hw)
        exact core 1 u d.s.h ht g rfl (by rw [h2]) (by rw [h2]) (by rw [h2]) (by rw [h2]) (by omega) v.st.mr (Ext.refl _ _) (fun _ hp h => (alight_pure hp).trans ha) (fun q => by cases q)
      · cases h
  · cases h

theorem phase_inv {kk : Nat} : ∀ (l : List It) (d d' : DS), (∀ it ∈ l, it ∈ its) → phase C fr ops kk l d = some d' → INV C fr ops its tm0 d I E w0 w b tmps df cs → Ext E0 h0 E d.s.h → Based h0 d →
    INV C fr ops its tm0 d' I E w0 w b tmps df cs ∧ Ext E0 h0 E d'.s.h ∧ Based h0 d' ∧ d'.s.u = d.s.u
  | [], d, d', _, h, v, x, bs => by simp only [phase_n, phase_c] at h; cases h; exact ⟨v, x, bs, rfl⟩
  | it :: l, d, d', hl, h, v, x, bs => by
    simp only [phase_n, phase_c] at h
    split at h
    · exact phase_inv l d d' (fun i hi => hl i (List.mem_cons_of_mem _ hi)) h v x bs
    · rename_i hcond
      split at h
      · rename_i d1 h1
        simp only [Bool.and_eq_true] at hcond
        have hc : it.c < 3 := by have := hcond.2; rwa [Nat.blt_eq] at this
        obtain ⟨v1, x1, b1, u1⟩ := item1_inv (hl it (List.mem_cons_self ..)) hc h1 v x bs
        obtain ⟨v2, x2, b2, u2⟩ := phase_inv l d1 d' (fun i hi => hl i (List.mem_cons_of_mem _ hi)) h v1 x1 b1
        exact ⟨v2, x2, b2, u2.trans u1⟩
      · cases h

theorem clearD_get {its : List It} {tm : T V} {t : Nat} {u : V} (h : (clearD tm its).get t = some u) : tm.get t = some u ∧ ∀ it ∈ its, it.o.dst ≠ some t := by
  induction its generalizing tm with
  | nil => exact ⟨h, by simp⟩
  | cons it its ih =>
    simp only [clearD] at h
    split at h
    · rename_i q hq
      obtain ⟨a, c⟩ := ih h
      rw [T.get_del] at a
      split at a
      · cases a
      · rename_i hne
        refine ⟨a, fun i hi => ?_⟩
        cases hi with
        | head => rw [hq]; intro z; exact hne (Option.some.inj z).symm
        | tail _ hi => exact c i hi
    · rename_i hq
      obtain ⟨a, c⟩ := ih h
      refine ⟨a, fun i hi => ?_⟩
      cases hi with
      | head => rw [hq]; simp
      | tail _ hi => exact c i hi

theorem heavy_step (pr : PrOk C) {rec : Req → M Res} (S : Sound C rec) (ok : ItsOk C.P ops its) (sl : slotOk ops its = true) (dc : Closed its I) {d : DS} (v : INV C fr ops its tm0 d I E w0 w b tmps df cs) (x : Ext E0 h0 E d.s.h) (bs : Based h0 d)
    {it : It} (hit : it ∈ its) (hc : 3 ≤ it.c) (ha : ∀ j, it.anc.testBit j = true → I j = true) {r : HR} (h : heavy1 C rec fr ops its it d = .ok r) (k : List Item) (rest : List Nat) :
    match r with
    | .go d' => ∃ E' df' cs' w' v', Ext E0 h0 E' d'.s.h ∧ INV C fr ops its tm0 d' (ins I it.i) E' w0 w' b (putA tmps it.o.dst v') df' cs' ∧ Based h0 d' ∧ CS d.s.u cs cs' ∧ d'.s.u.isSome = d.s.u.isSome ∧ (∃ e, d'.evs = e :: d.evs ∧ e.it = it) ∧
        Steps C.P (lone (mkF b tmps (.inRegion ops (it.i :: rest) :: k) df) cs w) (lone (mkF b (putA tmps it.o.dst v') (.inRegion ops rest :: k) df') cs' w')
    | .stop ch s' => ∃ E' df' cs' w' todo ch', Ext E0 h0 E' s'.h ∧ StR C.gl E' fr s' b tmps df' cs' w0 w' ∧ CS d.s.u cs cs' ∧ s'.u.isSome = d.s.u.isSome ∧ All₂ (PER E') ch ch' ∧
        Steps C.P (lone (mkF b tmps (.inRegion ops (it.i :: rest) :: k) df) cs w) (lone { mkF b tmps todo df' with mode := .panicking ch' } cs' w') := by
  have hop := ok.op it hit
  have hl : ∀ e' ∈ d.evs, ∀ q, e'.it.o.dst = some q → q < lim := fun e' h' q hq => Nat.lt_of_lt_of_le (v.good.dst e' h' q hq) v.st.fr.nt
  -- slots that it reads
  have trm : turnOk d it = true → TR E fr.nt (AM.sub d.s.tm (tmpsOf ops it.o)) tmps := by
    intro ht
    refine ⟨v.st.tr.1, fun t u hu => ?_⟩
    obtain ⟨h1, h2⟩ := sub_get hu
    refine v.st.tr.2 t u ?_
    show (tmOf I tm0 d.evs).get t = some u
    rw [v.good.tm] at h2
    rw [← h2]
    refine tmOf_same d.evs hl fun e' h' hd => ?_
    have hne : it.i ≠ e'.it.i := fun q => by
      have := (v.good.mask it.i).2 ⟨e', h', q.symm⟩
      rw [(turn_spec ht).2] at this; cases this
    rcases slot_spec sl hit (v.good.mem e' h') hne hd (.inl h1) with g | g
    · exact ha _ g
    · exfalso
      obtain ⟨post, pre, heq⟩ := List.append_of_mem h'
      obtain ⟨e2, g1, g2⟩ := (v.good.split post e' pre heq).1 _ g
      have := (v.good.mask it.i).2 ⟨e2, by rw [heq]; simp [g1], g2⟩
      rw [(turn_spec ht).2] at this; cases this
  -- what is so after it is done
  have fin : ∀ (d' : DS) (kk : Nat) (u : V) (s2 : AM.S) (E' : Env) (df' : List Deferred) (cs' : List Frame) (w' : World) (v' : Value), turnOk d it = true →
      d.add fr it (AM.sub d.s.tm (tmpsOf ops it.o)) kk u s2 = some d' → kk ≠ 1 → kk ≠ 2 → (kk = 0 → wantedA ops it.o (AM.sub d.s.tm (tmpsOf ops it.o)) = some false ∧ u = undefV) → (kk ≠ 0 → wantedA ops it.o (AM.sub d.s.tm (tmpsOf ops it.o)) = some true) →
      Ext E d.s.h E' s2.h → MR E' s2.h w0 w' → All₂ (ADR E') s2.df df' → UK E' s2.u b.kind cs' → AR E' u v' →
      Ext E0 h0 E' d'.s.h ∧ INV C fr ops its tm0 d' (ins I it.i) E' w0 w' b (putA tmps it.o.dst v') df' cs' ∧ Based h0 d' ∧ d'.s.u = s2.u ∧ (∃ e, d'.evs = e :: d.evs ∧ e.it = it) := by
    intro d' kk u s2 E' df' cs' w' v' ht hadd k1 k2 hz hnz x1 m1 dr uk hv
    have hadd' : d.add fr it (AM.sub d.s.tm (tmpsOf ops it.o)) kk u { s2 with tm := d.s.tm } = some d' := hadd
    obtain ⟨g, tm, h1, h2⟩ := Good.add v.good hit ht hadd' rfl x1.nxt (fun q => absurd q k2) hz hnz
    have hI := notin_I v ht
    have hev : d'.evs = ⟨it, AM.sub d.s.tm (tmpsOf ops it.o), kk, u, d.s.h.nxt⟩ :: d.evs := by rw [h2]
    have hh : d'.s.h = s2.h := by rw [h2]
    have hdf : d'.s.df = s2.df := by rw [h2]
    have hu : d'.s.u = s2.u := by rw [h2]
    have trI : TR E' fr.nt (tmOf (ins I it.i) tm0 d.evs) tmps := by
      refine TR.congr (fun t => ?_) (v.st.tr.mono x1.le)
      refine tmOf_same d.evs hl fun e' h' _ => ?_
      unfold ins
      rw [if_neg]
      intro q
      have := (v.good.mask it.i).2 ⟨e', h', q⟩
      rw [(turn_spec ht).2] at this; cases this
    refine ⟨by rw [hh]; exact x.trans x1, ⟨g, ?_, fun i hi => ?_, fun e he h3 => ?_, fun e he h3 => ?_, fun e he hk1 hp => ?_, fun e he hIe hk => ?_⟩, fun e he hk => ?_, hu, ⟨_, hev, rfl⟩⟩
    · refine ⟨by rw [show ({ d'.s with tm := tmOf (ins I it.i) tm0 d'.evs } : AM.S).h = s2.h from hh]; exact m1, ?_, by rw [show ({ d'.s with tm := tmOf (ins I it.i) tm0 d'.evs } : AM.S).df = s2.df from hdf]; exact dr, by rw [show ({ d'.s with tm := tmOf (ins I it.i) tm0 d'.evs } : AM.S).u = s2.u from hu]; exact uk, v.st.fr.mono x1.le, v.st.gl.mono x1.le⟩
      show TR E' fr.nt (tmOf (ins I it.i) tm0 d'.evs) _
      rw [hev]
      simp only [tmOf]
      rw [if_pos (by unfold ins; rw [if_pos rfl])]
      refine put_TR (v := u) trI ?_ hv v.st.fr.nt
      unfold putE
      cases hd : it.o.dst with
      | none => rfl
      | some q =>
        rw [hd] at h1
        simp only [putT] at h1 ⊢
        split at h1
        · rename_i hb; simp only [hb]
        · cases h1
    · unfold ins at hi
      split at hi
      · rename_i q; exact ⟨_, by rw [hev]; exact List.mem_cons_self .., q.symm⟩
      · obtain ⟨e, he, q⟩ := v.sub i hi; exact ⟨e, by rw [hev]; exact List.mem_cons_of_mem _ he, q⟩
    · rw [hev] at he
      unfold ins; split
      · rfl
      · rename_i hne
        cases he with
        | head => exact absurd rfl hne
        | tail _ he => exact v.heavy e he h3
    · rw [hev] at he
      cases he with
      | head => exact absurd hc (by simpa using h3)
      | tail _ he => exact v.kc e he h3
    · rw [hev] at he
      cases he with
      | head => exact absurd hk1 k1
      | tail _ he => exact v.pur e he hk1 hp
    · rw [hev] at he
      rw [hh]
      cases he with
      | head => exact absurd hk k2
      | tail _ he =>
        have hIe' : I e.it.i = false := by
          unfold ins at hIe; split at hIe
          · cases hIe
          · exact hIe
        obtain ⟨ob, a1, a2, a3, a4⟩ := v.alloc e he hIe' hk
        have hlt := v.good.bb e he hk
        exact ⟨ob, (x1.old _ hlt).trans a1, a2, (x1.ghost _ hlt a1).trans a3, a4⟩
    · rw [hev] at he
      cases he with
      | head => exact absurd hk k2
      | tail _ he => exact bs e he hk
  have stm : turnOk d it = true → StR C.gl E fr { d.s with tm := AM.sub d.s.tm (tmpsOf ops it.o) } b tmps df cs w0 w := fun ht => ⟨v.st.mr, trm ht, v.st.dr, v.st.uk, v.st.fr, v.st.gl⟩
  unfold heavy1 at h
  simp only at h
  split at h
  · rename_i ht hw
    split at h
    · rename_i d' hadd
      cases h
      obtain ⟨y1, y2, y3, y4, y5⟩ := fin d' 0 undefV d.s E df cs w undef ht hadd (by omega) (by omega) (fun _ => ⟨hw, rfl⟩) (fun q => absurd rfl q) (Ext.refl _ _) v.st.mr v.st.dr v.st.uk (.tup [] #[] .nil)
      exact ⟨E, df, cs, w, undef, y1, y2, y3, CS.refl v.st.uk, by rw [y4], y5, .one (st_op_skip hop (wanted_sound hw (trm ht)))⟩
    · cases h
  · rename_i ht hw
    have hw' := wanted_sound hw (trm ht)
    have go : ∀ (u : V) (s2 : AM.S) (d' : DS), OpR C.P C.gl fr it.o { d.s with tm := AM.sub d.s.tm (tmpsOf ops it.o) } (.val u s2) → d.add fr it (AM.sub d.s.tm (tmpsOf ops it.o)) 3 u s2 = some d' →
        ∃ E' df' cs' w' v', Ext E0 h0 E' d'.s.h ∧ INV C fr ops its tm0 d' (ins I it.i) E' w0 w' b (putA tmps it.o.dst v') df' cs' ∧ Based h0 d' ∧ CS d.s.u cs cs' ∧ d'.s.u.isSome = d.s.u.isSome ∧ (∃ e, d'.evs = e :: d.evs ∧ e.it = it) ∧
        Steps C.P (lone (mkF b tmps (.inRegion ops (it.i :: rest) :: k) df) cs w) (lone (mkF b (putA tmps it.o.dst v') (.inRegion ops rest :: k) df') cs' w') := by
      intro u s2 d' hO hadd
      obtain ⟨_, E', df', cs', w', v', a1, a2, a3, a4, a5, a6⟩ := hO E w0 w b tmps df cs k ops it.i rest (stm ht) hop hw'
      obtain ⟨y1, y2, y3, y4, y5⟩ := fin d' 3 u s2 E' df' cs' w' v' ht hadd (by omega) (by omega) (fun q => by cases q) (fun _ => hw) a1 a2.mr a2.dr a2.uk a5
      exact ⟨E', df', cs', w', v', y1, y2, y3, a3, by rw [y4]; exact a4, y5, a6⟩
    split at h
    · split at h
      · rename_i h' hs
        split at h
        · rename_i d' hadd
          cases h
          exact go undefV _ d' (store_opR (s := { d.s with tm := AM.sub d.s.tm (tmpsOf ops it.o) }) hs) hadd
        · cases h
      · cases h
    · split at h
      · cases h
      · rename_i ch s hs
        cases h
        obtain ⟨_, E', df', cs', w', todo, ch', a1, a2, a3, a4, a5, a6⟩ := heavy_sound pr S hs E w0 w b tmps df cs k ops it.i rest (stm ht) hop hw'
        refine ⟨E', df', cs', w', todo, ch', x.trans a1, ⟨a2.mr, ⟨a2.tr.1, fun t u hu => ?_⟩, a2.dr, a2.uk, a2.fr, a2.gl⟩, a3, a4, a5, a6⟩
        obtain ⟨c1, c2⟩ := clearD_get hu
        rw [v.good.tm] at c1
        refine (v.st.tr.mono a1.le).2 t u ?_
        show (tmOf I tm0 d.evs).get t = some u
        rw [← c1]
        exact tmOf_same d.evs hl fun e' h' hd => absurd hd (c2 _ (v.good.mem e' h'))
      · rename_i u s hs
        split at h
        · rename_i d' hadd
          cases h
          exact go u s d' (heavy_sound pr S hs) hadd
        · cases h
  · cases h
end
end
end Go.AM
