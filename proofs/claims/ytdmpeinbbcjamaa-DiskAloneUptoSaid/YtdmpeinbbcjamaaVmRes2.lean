/- The machine of values: resolved code, told by what is so behind it. -/
import Derived.Test.YtdmpeinbbcjamaaVmRes
set_option linter.unusedVariables false
set_option linter.unusedSimpArgs false
namespace Go.VM
open Go.RowKit
section
variable {P : Program} {gl : List Nat}

theorem PendR.spec {nt : Nat} {h : H} {anc : Nat} {es : List ER} (p : PendR P gl nt h anc es) (ok : ∀ r ∈ es, LightR P gl nt r.tmr r.h r.ro r.v) : ∀ r ∈ es, anc.testBit r.i = false → LightR P gl nt r.tmr h r.ro r.v := by
  induction p with
  | nil => intro r hr; cases hr
  | pass hp _ ih =>
    intro r hr ha
    cases hr with
    | head => rw [hp] at ha; cases ha
    | tail _ hr => exact ih (fun r hr => ok r (List.mem_cons_of_mem _ hr)) r hr ha
  | same hp _ ih =>
    intro r hr ha
    cases hr with
    | head => rw [← hp]; exact ok _ (List.mem_cons_self ..)
    | tail _ hr => exact ih (fun r hr => ok r (List.mem_cons_of_mem _ hr)) r hr ha
  | light hl _ ih =>
    intro r hr ha
    cases hr with
    | head => exact hl
    | tail _ hr => exact ih (fun r hr => ok r (List.mem_cons_of_mem _ hr)) r hr ha

theorem pend_of {fr : Fr} {h : H} {anc : Nat} : ∀ {evs : List Ev}, (∀ e ∈ evs, e.k = 1 → anc.testBit e.it.i = false → Light P gl fr.nt e.tmr h e.it.o e.v) → Pend P gl fr h anc evs
  | [], _ => .nil
  | e :: evs, hl => by
    have ih := pend_of (evs := evs) (fun e he => hl e (List.mem_cons_of_mem _ he))
    by_cases hk : (!Nat.beq e.k 1 || anc.testBit e.it.i) = true
    · exact .pass hk ih
    · simp only [Bool.or_eq_true, Bool.not_eq_true', not_or, Bool.not_eq_false, Bool.not_eq_true] at hk
      exact .light (hl e (List.mem_cons_self ..) (Nat.eq_of_beq_eq_true hk.1) hk.2) ih

theorem pendR_sound {fr : Fr} {d : DS} {s : S} {m anc : Nat} {h : H} {es : List ER} (p : PendR P gl fr.nt h anc es) (hd : DSim P gl fr.nt d s m es) : Pend P gl fr h anc d.evs := by
  refine pend_of fun e he hk ha => ?_
  rcases hd.ev e he hk with g | ⟨r, g1, g2, g3, g4, g5⟩
  · exact g h
  · rw [g4, g5]
    exact p.spec hd.ok r g1 (by rw [g2]; exact ha) e.it.o g3

theorem dsts_clear {its : List It} : ∀ tm : TM, clearDs tm (dstsOf its) = clearD tm its := by
  induction its with
  | nil => intro tm; rfl
  | cons it its ih =>
    intro tm
    simp only [dstsOf, clearD]
    cases it.o.dst with
    | none => exact ih _
    | some d => exact ih _

theorem drR_sound {fr : Fr} {ops : Array Oper} {its : List It} {x : X} {s' : S} (hl : ∀ k, ∀ it ∈ lightsOf its k, it ∈ its) : ∀ {hs : List It} {k : Nat} {rs : List (RI × List RI)} {d : DS} {s : S} {m : Nat} {es : List ER}, resHs P ops (planH its hs k) = some rs → simH its (planH its hs k) m = some (2 ^ ops.size - 1) →
    DrR P gl fr (dstsOf its) x s' rs s es → DSim P gl fr.nt d s m es → Dr P gl fr ops its x s' hs d
  | [], k, rs, d, s, m, es, hr, hs, hp, hd => by
    simp only [planH, resHs] at hr; cases hr
    simp only [planH, simH] at hs; cases hs
    cases hp with
    | fin hx hs =>
      refine .fin hx (hs.trans hd.s.symm) ?_
      unfold fullM; rw [hd.m]; exact Nat.beq_refl _
  | it :: hs, k, rs, d, s, m, es, hr, hsim, hp, hd => by
    simp only [planH, resHs] at hr
    split at hr
    · rename_i r rl rq h1 h2 h3
      cases hr
      obtain ⟨e0, e00, e1, e4, e2, e3⟩ := resI_spec h1
      simp only [planH, simH] at hsim
      split at hsim
      · rename_i hq
        simp only [Bool.and_eq_true] at hq
        obtain ⟨⟨q1, q2⟩, q3⟩ := hq
        have ht : turnOk d it = true := simL_turn hd.m (by simp only [Bool.and_eq_true]; exact ⟨q1, q2⟩)
        have hwt : waits its it d = true := by unfold waits; rw [hd.m]; exact q3
        have ew : wantedA ops it.o (tsub d.s.tm (tmpsOf ops it.o)) = wantR r.gd (tsub s.tm r.rd) := by rw [wantR_eq e3, hd.s, e4]
        have et : tsub d.s.tm (tmpsOf ops it.o) = tsub s.tm r.rd := by rw [hd.s, e4]
        split at hsim
        · rename_i m2 hm2
          cases hp with
          | @skip _ _ _ _ hh2 tm1 tm2 _ es2 hw hput ph pd next =>
            have a1 := DS.add_eq (fr := fr) (d := d) (it := it) (tmr := tsub d.s.tm (tmpsOf ops it.o)) (k := 0) (v := .v undefV) (s := d.s) (tm := tm1) (by rw [hd.s, e2]; exact hput)
            have a2 : DSim P gl fr.nt ⟨{ d.s with tm := tm1 }, ⟨it, tsub d.s.tm (tmpsOf ops it.o), 0, .v undefV, d.s.h.nxt⟩ :: d.evs, d.mask ||| 2 ^ it.i⟩ { s with tm := tm1 } (m ||| 2 ^ it.i) es := ⟨by rw [hd.s], by rw [hd.m], fun e he hk1 => (by
              cases he with
              | head => cases hk1
              | tail _ he => exact hd.ev e he hk1), hd.ok⟩
            obtain ⟨d', b1, b2⟩ := phR_sound (its := its) (ops := ops) (hl k) h2 hm2 ph a2
            refine .skip ht hwt (ew.trans hw) a1 b1 ?_ (drR_sound hl h3 hsim next b2)
            rw [show d'.s.h = hh2 by rw [b2.s], ← e00]
            exact pendR_sound pd b2
          | @go _ _ _ _ s2 v hh2 tm1 tm2 _ es2 hw hop hput ph pd next =>
            have hop' : OpR P gl fr it.o { d.s with tm := tsub d.s.tm (tmpsOf ops it.o) } (.val v s2) := by rw [et, hd.s]; exact hop it.o e1
            have a1 := DS.add_eq (fr := fr) (d := d) (it := it) (tmr := tsub d.s.tm (tmpsOf ops it.o)) (k := 3) (v := v) (s := s2) (tm := tm1) (by rw [hd.s, e2]; exact hput)
            have a2 : DSim P gl fr.nt ⟨{ s2 with tm := tm1 }, ⟨it, tsub d.s.tm (tmpsOf ops it.o), 3, v, d.s.h.nxt⟩ :: d.evs, d.mask ||| 2 ^ it.i⟩ { s2 with tm := tm1 } (m ||| 2 ^ it.i) es := ⟨rfl, by rw [hd.m], fun e he hk1 => (by
              cases he with
              | head => cases hk1
              | tail _ he => exact hd.ev e he hk1), hd.ok⟩
            obtain ⟨d', b1, b2⟩ := phR_sound (its := its) (ops := ops) (s := { s2 with tm := tm1 }) (hl k) h2 hm2 ph a2
            refine .go ht hwt (ew.trans hw) hop' a1 b1 ?_ (drR_sound hl h3 hsim next b2)
            rw [show d'.s.h = hh2 by rw [b2.s], ← e00]
            exact pendR_sound pd b2
          | @stop _ _ _ _ s2 ch _ hw hop hx hse =>
            have hop' : OpR P gl fr it.o { d.s with tm := tsub d.s.tm (tmpsOf ops it.o) } (.pan ch s2) := by rw [et, hd.s]; exact hop it.o e1
            exact .stop ht hwt (ew.trans hw) hop' hx (by rw [hse, dsts_clear, hd.s])
        · cases hsim
      · cases hsim
    · cases hr

theorem resD_sound {fr : Fr} {id : Nat} {ops : Array Oper} {ph : List RI} {hs : List (RI × List RI)} {ds : List Nat} {s : S} {x : X} {s' : S} {h1 : H} {tm1 : TM} {es1 : List ER} (hmix : P.follows .mixedOrders = true) (hr : resD P ops (items P ops.toList) = some (.dreg ph hs ds))
    (p1 : PhR P gl fr.nt ph s.h s.tm [] h1 tm1 es1) (pd : PendR P gl fr.nt h1 0 es1) (p2 : DrR P gl fr ds x s' hs { s with tm := tm1, h := h1 } es1) : SItem P gl fr (.code (.region id ops true)) s x s' := by
  unfold resD at hr
  split at hr
  · rename_i hok
    simp only [Bool.and_eq_true] at hok
    split at hr
    · rename_i a b ha hb
      cases hr
      have hsim := hok.2
      unfold simOk at hsim
      split at hsim
      · rename_i m hm
        split at hsim
        · rename_i m2 hm2
          have hm2' := Nat.eq_of_beq_eq_true hsim
          subst hm2'
          have hl : ∀ k, ∀ it ∈ lightsOf (items P ops.toList) k, it ∈ items P ops.toList := fun k it hit => (List.mem_filter.1 hit).1
          have d0 : DSim P gl fr.nt ⟨s, [], 0⟩ s 0 [] := ⟨rfl, rfl, (fun e he => by cases he), (fun r hr => by cases hr)⟩
          obtain ⟨d', b1, b2⟩ := phR_sound (its := items P ops.toList) (ops := ops) (hl 0) ha hm p1 d0
          refine drawn_sound (d1 := d') hmix rfl hok.1 b1 (drR_sound hl hb hm2 p2 b2) ?_
          rw [show d'.s.h = h1 by rw [b2.s]]
          exact pendR_sound pd b2
        · cases hsim
      · cases hsim
    · cases hr
  · cases hr

/-! ### what is so behind resolved code -/
def WR (P : Program) (gl : List Nat) (fr : Fr) (c : RC) (s : S) (QN : S → Prop) (QX : X → S → Prop) : Prop := ∀ c', resC P c' = some c → WC P gl fr c' s QN QX
/-- a loop, at its head. -/
def WLr (P : Program) (gl : List Nat) (fr : Fr) (c : RC) (s : S) (QN : S → Prop) (QX : X → S → Prop) : Prop := ∀ c', resC P c' = some c → WL P gl fr c' s QN QX
/-- a loop, behind its body. -/
def WIr (P : Program) (gl : List Nat) (fr : Fr) (c : RC) (s : S) (QN : S → Prop) (QX : X → S → Prop) : Prop := ∀ c', resC P c' = some c → WI P gl fr (.inLoop c') s QN QX

variable {fr : Fr} {s : S} {QN : S → Prop} {QX : X → S → Prop}

theorem resC_region {id : Nat} {ops : Array Oper} {dr : Bool} {c : RC} (h : resC P (.region id ops dr) = some c) : (dr = false ∧ ∃ os, resOs P ops ops.toList = some os ∧ c = .reg os) ∨ (dr = true ∧ resD P ops (items P ops.toList) = some c) := by
  cases dr with
  | false => simp only [resC, Option.map_eq_some_iff] at h; obtain ⟨os, h1, h2⟩ := h; exact .inl ⟨rfl, os, h1, h2.symm⟩
  | true => simp only [resC] at h; exact .inr ⟨rfl, h⟩

theorem resD_kind {ops : Array Oper} {its : List It} {c : RC} (h : resD P ops its = some c) : ∃ a b d, c = .dreg a b d := by
  unfold resD at h
  split at h
  · split at h
    · cases h; exact ⟨_, _, _, rfl⟩
    · cases h
  · cases h

/-- what code a resolved one comes from. -/
theorem WR.skip (h : QN s) : WR P gl fr .skip s QN QX := by
  intro c hc
  cases c with
  | skip => exact WC.skip h
  | label l => exact WC.label h
  | region id ops dr =>
    rcases resC_region hc with ⟨_, os, _, e⟩ | ⟨_, e⟩
    · cases e
    · obtain ⟨_, _, _, e⟩ := resD_kind e; cases e
  | seq a b => simp only [resC] at hc; split at hc <;> cases hc
  | cond x a b => simp only [resC] at hc; split at hc <;> cases hc
  | block id a => simp only [resC, Option.map_eq_some_iff] at hc; obtain ⟨_, _, e⟩ := hc; cases e
  | scope a => simp only [resC, Option.map_eq_some_iff] at hc; obtain ⟨_, _, e⟩ := hc; cases e
  | loop a => simp only [resC, Option.map_eq_some_iff] at hc; obtain ⟨_, _, e⟩ := hc; cases e
  | exit id => simp only [resC] at hc; cases hc
  | ret => simp only [resC] at hc; cases hc
  | _ => simp [resC] at hc

theorem WR.seq {a b : RC} (h : WR P gl fr a s (fun s1 => WR P gl fr b s1 QN QX) QX) : WR P gl fr (.seq a b) s QN QX := by
  intro c hc
  cases c with
  | seq a' b' =>
    simp only [resC] at hc
    split at hc
    · rename_i a2 b2 ha hb
      cases hc
      exact WC.seq ((h _ ha).mono (fun s1 h1 => h1 _ hb) (fun _ _ h => h))
    · cases hc
  | region id ops dr =>
    rcases resC_region hc with ⟨_, os, _, e⟩ | ⟨_, e⟩
    · cases e
    · obtain ⟨_, _, _, e⟩ := resD_kind e; cases e
  | skip => simp only [resC] at hc; cases hc
  | label l => simp only [resC] at hc; cases hc
  | cond x a b => simp only [resC] at hc; split at hc <;> cases hc
  | block id a => simp only [resC, Option.map_eq_some_iff] at hc; obtain ⟨_, _, e⟩ := hc; cases e
  | scope a => simp only [resC, Option.map_eq_some_iff] at hc; obtain ⟨_, _, e⟩ := hc; cases e
  | loop a => simp only [resC, Option.map_eq_some_iff] at hc; obtain ⟨_, _, e⟩ := hc; cases e
  | exit id => simp only [resC] at hc; cases hc
  | ret => simp only [resC] at hc; cases hc
  | _ => simp [resC] at hc

theorem WR.cond {x : RX} {a b : RC} {t : Bool} (hv : rv gl s.tm x = some (.bool t)) (h1 : t = true → WR P gl fr a s QN QX) (h2 : t = false → WR P gl fr b s QN QX) : WR P gl fr (.cond x a b) s QN QX := by
  intro c hc
  cases c with
  | cond y a' b' =>
    simp only [resC] at hc
    split at hc
    · rename_i x2 a2 b2 hx ha hb
      cases hc
      exact WC.cond hx hv (fun e => h1 e _ ha) (fun e => h2 e _ hb)
    · cases hc
  | region id ops dr =>
    rcases resC_region hc with ⟨_, os, _, e⟩ | ⟨_, e⟩
    · cases e
    · obtain ⟨_, _, _, e⟩ := resD_kind e; cases e
  | seq a b => simp only [resC] at hc; split at hc <;> cases hc
  | skip => simp only [resC] at hc; cases hc
  | label l => simp only [resC] at hc; cases hc
  | block id a => simp only [resC, Option.map_eq_some_iff] at hc; obtain ⟨_, _, e⟩ := hc; cases e
  | scope a => simp only [resC, Option.map_eq_some_iff] at hc; obtain ⟨_, _, e⟩ := hc; cases e
  | loop a => simp only [resC, Option.map_eq_some_iff] at hc; obtain ⟨_, _, e⟩ := hc; cases e
  | exit id => simp only [resC] at hc; cases hc
  | ret => simp only [resC] at hc; cases hc
  | _ => simp [resC] at hc

theorem WR.condT {x : RX} {a b : RC} (hv : rv gl s.tm x = some (.bool true)) (h1 : WR P gl fr a s QN QX) : WR P gl fr (.cond x a b) s QN QX := WR.cond hv (fun _ => h1) (fun e => by cases e)
theorem WR.condF {x : RX} {a b : RC} (hv : rv gl s.tm x = some (.bool false)) (h1 : WR P gl fr b s QN QX) : WR P gl fr (.cond x a b) s QN QX := WR.cond hv (fun e => by cases e) (fun _ => h1)

theorem WR.block {id : Nat} {a : RC} (h : WR P gl fr a s QN (blkX id QN QX)) : WR P gl fr (.block id a) s QN QX := by
  intro c hc
  cases c with
  | block i a' => simp only [resC, Option.map_eq_some_iff] at hc; obtain ⟨_, ha, e⟩ := hc; cases e; exact WC.block (h _ ha)
  | region id ops dr =>
    rcases resC_region hc with ⟨_, os, _, e⟩ | ⟨_, e⟩
    · cases e
    · obtain ⟨_, _, _, e⟩ := resD_kind e; cases e
  | seq a b => simp only [resC] at hc; split at hc <;> cases hc
  | cond x a b => simp only [resC] at hc; split at hc <;> cases hc
  | skip => simp only [resC] at hc; cases hc
  | label l => simp only [resC] at hc; cases hc
  | scope a => simp only [resC, Option.map_eq_some_iff] at hc; obtain ⟨_, _, e⟩ := hc; cases e
  | loop a => simp only [resC, Option.map_eq_some_iff] at hc; obtain ⟨_, _, e⟩ := hc; cases e
  | exit id => simp only [resC] at hc; cases hc
  | ret => simp only [resC] at hc; cases hc
  | _ => simp [resC] at hc

theorem WR.scope {a : RC} (h : WR P gl fr a s QN QX) : WR P gl fr (.scope a) s QN QX := by
  intro c hc
  cases c with
  | scope a' => simp only [resC, Option.map_eq_some_iff] at hc; obtain ⟨_, ha, e⟩ := hc; cases e; exact WC.scope (h _ ha)
  | region id ops dr =>
    rcases resC_region hc with ⟨_, os, _, e⟩ | ⟨_, e⟩
    · cases e
    · obtain ⟨_, _, _, e⟩ := resD_kind e; cases e
  | seq a b => simp only [resC] at hc; split at hc <;> cases hc
  | cond x a b => simp only [resC] at hc; split at hc <;> cases hc
  | skip => simp only [resC] at hc; cases hc
  | label l => simp only [resC] at hc; cases hc
  | block id a => simp only [resC, Option.map_eq_some_iff] at hc; obtain ⟨_, _, e⟩ := hc; cases e
  | loop a => simp only [resC, Option.map_eq_some_iff] at hc; obtain ⟨_, _, e⟩ := hc; cases e
  | exit id => simp only [resC] at hc; cases hc
  | ret => simp only [resC] at hc; cases hc
  | _ => simp [resC] at hc

theorem WR.loop {a : RC} (h : WLr P gl fr a s QN QX) : WR P gl fr (.loop a) s QN QX := by
  intro c hc
  cases c with
  | loop a' => simp only [resC, Option.map_eq_some_iff] at hc; obtain ⟨_, ha, e⟩ := hc; cases e; exact WC.loop (h _ ha)
  | region id ops dr =>
    rcases resC_region hc with ⟨_, os, _, e⟩ | ⟨_, e⟩
    · cases e
    · obtain ⟨_, _, _, e⟩ := resD_kind e; cases e
  | seq a b => simp only [resC] at hc; split at hc <;> cases hc
  | cond x a b => simp only [resC] at hc; split at hc <;> cases hc
  | skip => simp only [resC] at hc; cases hc
  | label l => simp only [resC] at hc; cases hc
  | block id a => simp only [resC, Option.map_eq_some_iff] at hc; obtain ⟨_, _, e⟩ := hc; cases e
  | scope a => simp only [resC, Option.map_eq_some_iff] at hc; obtain ⟨_, _, e⟩ := hc; cases e
  | exit id => simp only [resC] at hc; cases hc
  | ret => simp only [resC] at hc; cases hc
  | _ => simp [resC] at hc

theorem WLr.of {a : RC} (h : WR P gl fr a s (fun s1 => WIr P gl fr a s1 QN QX) QX) : WLr P gl fr a s QN QX := fun c hc => (h c hc).mono (fun s1 h1 => h1 c hc) (fun _ _ h => h)
theorem WIr.again {a : RC} (h : WLr P gl fr a s QN QX) : WIr P gl fr a s QN QX := fun c hc => WL.again (h c hc)

theorem WR.exit {id : Nat} (h : QX (.exit id) s) : WR P gl fr (.exit id) s QN QX := by
  intro c hc
  cases c with
  | exit i => simp only [resC] at hc; cases hc; exact WC.exit h
  | region id ops dr =>
    rcases resC_region hc with ⟨_, os, _, e⟩ | ⟨_, e⟩
    · cases e
    · obtain ⟨_, _, _, e⟩ := resD_kind e; cases e
  | seq a b => simp only [resC] at hc; split at hc <;> cases hc
  | cond x a b => simp only [resC] at hc; split at hc <;> cases hc
  | skip => simp only [resC] at hc; cases hc
  | label l => simp only [resC] at hc; cases hc
  | block id a => simp only [resC, Option.map_eq_some_iff] at hc; obtain ⟨_, _, e⟩ := hc; cases e
  | scope a => simp only [resC, Option.map_eq_some_iff] at hc; obtain ⟨_, _, e⟩ := hc; cases e
  | loop a => simp only [resC, Option.map_eq_some_iff] at hc; obtain ⟨_, _, e⟩ := hc; cases e
  | ret => simp only [resC] at hc; cases hc
  | _ => simp [resC] at hc

theorem WR.ret (h : QX .ret s) : WR P gl fr .ret s QN QX := by
  intro c hc
  cases c with
  | ret => exact WC.ret h
  | region id ops dr =>
    rcases resC_region hc with ⟨_, os, _, e⟩ | ⟨_, e⟩
    · cases e
    · obtain ⟨_, _, _, e⟩ := resD_kind e; cases e
  | seq a b => simp only [resC] at hc; split at hc <;> cases hc
  | cond x a b => simp only [resC] at hc; split at hc <;> cases hc
  | skip => simp only [resC] at hc; cases hc
  | label l => simp only [resC] at hc; cases hc
  | block id a => simp only [resC, Option.map_eq_some_iff] at hc; obtain ⟨_, _, e⟩ := hc; cases e
  | scope a => simp only [resC, Option.map_eq_some_iff] at hc; obtain ⟨_, _, e⟩ := hc; cases e
  | loop a => simp only [resC, Option.map_eq_some_iff] at hc; obtain ⟨_, _, e⟩ := hc; cases e
  | exit id => simp only [resC] at hc; cases hc
  | _ => simp [resC] at hc

/-- what a piece leaves. -/
def Post (QN : S → Prop) (QX : X → S → Prop) : X → S → Prop
  | .norm, s => QN s
  | x, s => QX x s

theorem WC.post {c : Code} {x : X} {s' : S} (h : SItem P gl fr (.code c) s x s') (hq : Post QN QX x s') : WC P gl fr c s QN QX := by
  refine WC.of h ?_
  cases x <;> exact hq

theorem WR.reg' {os : List RI} {x : X} {s' : S} (h : SqR P gl fr x s' os s) (hq : Post QN QX x s') : WR P gl fr (.reg os) s QN QX := by
  intro c hc
  cases c with
  | region id ops dr =>
    rcases resC_region hc with ⟨rfl, os', ho, e⟩ | ⟨_, e⟩
    · cases e
      exact WC.post (region_sound rfl (sqR_sound ho h)) hq
    · obtain ⟨_, _, _, e⟩ := resD_kind e; cases e
  | seq a b => simp only [resC] at hc; split at hc <;> cases hc
  | cond x a b => simp only [resC] at hc; split at hc <;> cases hc
  | skip => simp only [resC] at hc; cases hc
  | label l => simp only [resC] at hc; cases hc
  | block id a => simp only [resC, Option.map_eq_some_iff] at hc; obtain ⟨_, _, e⟩ := hc; cases e
  | scope a => simp only [resC, Option.map_eq_some_iff] at hc; obtain ⟨_, _, e⟩ := hc; cases e
  | loop a => simp only [resC, Option.map_eq_some_iff] at hc; obtain ⟨_, _, e⟩ := hc; cases e
  | exit id => simp only [resC] at hc; cases hc
  | ret => simp only [resC] at hc; cases hc
  | _ => simp [resC] at hc

theorem WR.dreg' {ph : List RI} {hs : List (RI × List RI)} {ds : List Nat} {x : X} {s' : S} {h1 : H} {tm1 : TM} {es1 : List ER} (hmix : P.follows .mixedOrders = true)
    (p1 : PhR P gl fr.nt ph s.h s.tm [] h1 tm1 es1) (pd : PendR P gl fr.nt h1 0 es1) (p2 : DrR P gl fr ds x s' hs { s with tm := tm1, h := h1 } es1) (hq : Post QN QX x s') : WR P gl fr (.dreg ph hs ds) s QN QX := by
  intro c hc
  cases c with
  | region id ops dr =>
    rcases resC_region hc with ⟨_, os, _, e⟩ | ⟨rfl, e⟩
    · cases e
    · exact WC.post (resD_sound hmix e p1 pd p2) hq
  | seq a b => simp only [resC] at hc; split at hc <;> cases hc
  | cond x a b => simp only [resC] at hc; split at hc <;> cases hc
  | skip => simp only [resC] at hc; cases hc
  | label l => simp only [resC] at hc; cases hc
  | block id a => simp only [resC, Option.map_eq_some_iff] at hc; obtain ⟨_, _, e⟩ := hc; cases e
  | scope a => simp only [resC, Option.map_eq_some_iff] at hc; obtain ⟨_, _, e⟩ := hc; cases e
  | loop a => simp only [resC, Option.map_eq_some_iff] at hc; obtain ⟨_, _, e⟩ := hc; cases e
  | exit id => simp only [resC] at hc; cases hc
  | ret => simp only [resC] at hc; cases hc
  | _ => simp [resC] at hc

theorem WR.weak {c : RC} {s1 : S} (h : SW gl fr s1 s) (k : WR P gl fr c s QN QX) : WR P gl fr c s1 QN QX := fun c' hc => WI.weak h (k c' hc)
theorem WLr.weak {c : RC} {s1 : S} (h : SW gl fr s1 s) (k : WLr P gl fr c s QN QX) : WLr P gl fr c s1 QN QX := fun c' hc => WL.weak h (k c' hc)
theorem WR.mono {c : RC} {QN' : S → Prop} {QX' : X → S → Prop} (h : WR P gl fr c s QN QX) (h1 : ∀ s', QN s' → QN' s') (h2 : ∀ x s', QX x s' → QX' x s') : WR P gl fr c s QN' QX' := fun c' hc => (h c' hc).mono h1 h2
end
end Go.VM
