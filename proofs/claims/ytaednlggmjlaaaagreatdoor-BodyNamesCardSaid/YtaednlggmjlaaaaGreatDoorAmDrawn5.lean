/- The abstract machine: regions whose order is drawn: the whole of them. -/
import Derived.Test.YtaednlggmjlaaaaGreatDoorAmDrawn4
set_option linter.unusedVariables false
set_option linter.unusedSimpArgs false
namespace Go.AM
noncomputable section
open Go.RowKit

def after (C : Cfg) (rec : Req → M Res) (fr : Fr) (ops : Array Oper) (its : List It) : List It → Nat → DS → M Res
  | [], _, d => full ops.size d
  | it :: hs, k, d => match waits its it d with
    | false => .bad fr.fid "waits"
    | true => match heavy1 C rec fr ops its it d with
      | .bad f p => .bad f p
      | .ok (.stop ch s) => .ok (.x (.panic ch) s)
      | .ok (.go d) => phases C rec fr ops its (full ops.size) hs (k + 1) it.anc d

theorem phases_after {C : Cfg} {rec : Req → M Res} {fr : Fr} {ops : Array Oper} {its : List It} {hs : List It} {k anc : Nat} {d : DS} {r : Res} (h : phases C rec fr ops its (full ops.size) hs k anc d = .ok r) :
    ∃ d1, phase C fr ops k its d = some d1 ∧ pendOk C d1.s.h anc d1.evs = true ∧ after C rec fr ops its hs k d1 = .ok r := by
  unfold phases at h
  split at h
  · cases h
  · rename_i d1 h1
    split at h
    · cases h
    · rename_i h2
      refine ⟨d1, h1, h2, ?_⟩
      cases hs with
      | nil => exact h
      | cons it hs => exact h

theorem chain_head {x : It} {xs : List It} (h : chainOk (x :: xs) = true) : (∀ y ∈ xs, y.anc.testBit x.i = true) ∧ chainOk xs = true := by
  simp only [chainOk, Bool.and_eq_true, List.all_eq_true] at h
  exact h

theorem two_bit {n i : Nat} (h : i < n) : (2 ^ n - 1).testBit i = true := by rw [Nat.testBit_two_pow_sub_one]; exact decide_eq_true h

def lst (l : Array Bool) : Nat → Bool := fun j => l.getD j false

theorem lst_set {l : Array Bool} {i : Nat} (h : i < l.size) : lst (l.setIfInBounds i true) = ins (lst l) i := by
  funext j
  unfold lst ins
  by_cases q : j = i
  · subst q
    rw [if_pos rfl]
    simp [Array.getD_eq_getD_getElem?, h]
  · rw [if_neg q, getD_set_ne false (fun z => q z.symm)]

theorem getD_tf {l : Array Bool} {i : Nat} (h : i < l.size) : l.getD i true = l.getD i false := by
  simp [Array.getD_eq_getD_getElem?, h]

theorem after_heavy1 {C : Cfg} {rec : Req → M Res} {fr : Fr} {ops : Array Oper} {its : List It} {hd : It} {hs : List It} {k : Nat} {d : DS} {r : Res} (h : after C rec fr ops its (hd :: hs) k d = .ok r) :
    turnOk d hd = true ∧ waits its hd d = true ∧ ((∃ ch s, heavy1 C rec fr ops its hd d = .ok (.stop ch s) ∧ r = .x (.panic ch) s) ∨ ∃ d', heavy1 C rec fr ops its hd d = .ok (.go d') ∧ phases C rec fr ops its (full ops.size) hs (k + 1) hd.anc d' = .ok r) := by
  simp only [after] at h
  split at h
  · cases h
  · rename_i hw
    have ht : ∀ r, heavy1 C rec fr ops its hd d = .ok r → turnOk d hd = true := by
      intro r hr
      unfold heavy1 at hr
      simp only at hr
      split at hr
      · assumption
      · assumption
      · cases hr
    split at h
    · cases h
    · rename_i ch s hh
      cases h
      exact ⟨ht _ hh, hw, .inl ⟨ch, s, hh, rfl⟩⟩
    · rename_i d' hh
      exact ⟨ht _ hh, hw, .inr ⟨d', hh, h⟩⟩


theorem heavy1_turn {C : Cfg} {rec : Req → M Res} {fr : Fr} {ops : Array Oper} {its : List It} {hd : It} {d : DS} {r : HR} (hr : heavy1 C rec fr ops its hd d = .ok r) : turnOk d hd = true := by
  unfold heavy1 at hr
  simp only at hr
  split at hr
  · assumption
  · assumption
  · cases hr

/-- states that tell the same. -/
structure Eqv (s1 s2 : AM.S) : Prop where
  tm : ∀ t, s2.tm.get t = s1.tm.get t
  df : s2.df = s1.df
  u : s2.u = s1.u
  nxt : s2.h.nxt = s1.h.nxt
  ob : ∀ b, s2.h.get b = s1.h.get b

theorem Eqv.refl (s : AM.S) : Eqv s s := ⟨fun _ => rfl, rfl, rfl, rfl, fun _ => rfl⟩

theorem Eqv.ext {s1 s2 : AM.S} (e : Eqv s1 s2) {E0 E : Env} {h0 : H} (x : Ext E0 h0 E s1.h) : Ext E0 h0 E s2.h :=
  ⟨x.le, x.old, by rw [e.nxt]; exact x.nxt, fun b hb he => (e.ob b).trans (x.ghost b hb he)⟩

theorem Eqv.mr {s1 s2 : AM.S} (e : Eqv s1 s2) {E : Env} {w0 w : World} (m : MR E s1.h w0 w) : MR E s2.h w0 w :=
  ⟨m.below, fun b hb => by rw [e.ob b]; exact m.fresh b (by rw [← e.nxt]; exact hb), by rw [e.nxt]; exact m.glo, by rw [e.nxt]; exact m.lim, fun b o p hb hp => m.obj b o p (by rw [← e.ob b]; exact hb) hp, fun b o hb ho => m.glb b o hb (by rw [← e.ob b]; exact ho), m.own, m.lt,
    fun b b' o o' p p' hn hb hb' hp hp' => m.apart b b' o o' p p' hn (by rw [← e.ob b]; exact hb) (by rw [← e.ob b']; exact hb') hp hp'⟩

theorem Eqv.str {s1 s2 : AM.S} (e : Eqv s1 s2) {gl : List Nat} {E : Env} {fr : Fr} {b : Frame} {tmps : Array Value} {df : List Deferred} {cs : List Frame} {w0 w : World} (st : StR gl E fr s1 b tmps df cs w0 w) : StR gl E fr s2 b tmps df cs w0 w :=
  ⟨e.mr st.mr, TR.congr e.tm st.tr, by rw [e.df]; exact st.dr, by rw [e.u]; exact st.uk, st.fr, st.gl⟩

/-- the heavy items that are left, and what comes of them; the last two may be stores in any order. -/
inductive Aft (C : Cfg) (rec : Req → M Res) (fr : Fr) (ops : Array Oper) (its : List It) (x : X) : List It → Nat → DS → AM.S → Prop where
  | nil {k : Nat} {d : DS} {s' : AM.S} (h : full ops.size d = .ok (.x x s')) : Aft C rec fr ops its x [] k d s'
  | step {hd : It} {tl : List It} {k : Nat} {d d' d1 : DS} {s' : AM.S} (ho : ∀ y ∈ tl, y.anc.testBit hd.i = true) (hw : waits its hd d = true) (hh : heavy1 C rec fr ops its hd d = .ok (.go d')) (p1 : phase C fr ops (k + 1) its d' = some d1)
      (p2 : pendOk C d1.s.h hd.anc d1.evs = true) (next : Aft C rec fr ops its x tl (k + 1) d1 s') : Aft C rec fr ops its x (hd :: tl) k d s'
  | stop {hd : It} {tl : List It} {k : Nat} {d : DS} {ch : List PE} {s' : AM.S} (ho : ∀ y ∈ tl, y.anc.testBit hd.i = true) (hw : waits its hd d = true) (hh : heavy1 C rec fr ops its hd d = .ok (.stop ch s')) (hx : x = .panic ch) : Aft C rec fr ops its x (hd :: tl) k d s'
  | fork {a b : It} {k : Nat} {d d' d1 e' e1 : DS} {s' s2 : AM.S} (wa : waits its a d = true) (wb : waits its b d = true) (ha : heavy1 C rec fr ops its a d = .ok (.go d')) (p1 : phase C fr ops (k + 1) its d' = some d1)
      (p2 : pendOk C d1.s.h a.anc d1.evs = true) (hb : heavy1 C rec fr ops its b d = .ok (.go e')) (q1 : phase C fr ops (k + 1) its e' = some e1) (q2 : pendOk C e1.s.h b.anc e1.evs = true)
      (na : Aft C rec fr ops its x [b] (k + 1) d1 s') (nb : Aft C rec fr ops its x [a] (k + 1) e1 s2) (eq : Eqv s2 s') : Aft C rec fr ops its x [a, b] k d s'

theorem Aft.turn {C : Cfg} {rec : Req → M Res} {fr : Fr} {ops : Array Oper} {its : List It} {x : X} {hd : It} {tl : List It} {k : Nat} {d : DS} {s' : AM.S} (h : Aft C rec fr ops its x (hd :: tl) k d s') : turnOk d hd = true ∧ waits its hd d = true := by
  cases h with
  | step _ hw hh _ _ _ => exact ⟨heavy1_turn hh, hw⟩
  | stop _ hw hh _ => exact ⟨heavy1_turn hh, hw⟩
  | fork wa _ ha _ _ _ _ _ _ _ _ => exact ⟨heavy1_turn ha, wa⟩

theorem Aft.of_chain {C : Cfg} {rec : Req → M Res} {fr : Fr} {ops : Array Oper} {its : List It} {x : X} {s' : AM.S} : ∀ {hs : List It} {k : Nat} {d : DS}, chainOk hs = true → after C rec fr ops its hs k d = .ok (.x x s') → Aft C rec fr ops its x hs k d s'
  | [], _, _, _, h => .nil h
  | hd :: tl, k, d, ch, h => by
    obtain ⟨c1, c2⟩ := chain_head ch
    obtain ⟨ht, hw, hcase⟩ := after_heavy1 h
    rcases hcase with ⟨pch, s2, hh, hr⟩ | ⟨d', hh, hph⟩
    · cases hr; exact .stop c1 hw hh rfl
    · obtain ⟨d1, p1, p2, p3⟩ := phases_after hph
      exact .step c1 hw hh p1 p2 (Aft.of_chain c2 p3)

theorem finish_sound {C : Cfg} {fr : Fr} {ops : Array Oper} {its : List It} {tm0 : T V} (ok : ItsOk C.P ops its) {rec : Req → M Res} (k : List Item) {E0 : Env} {h0 : H} {w0 : World} {b : Frame} {x : X} {s' : AM.S}
    (listed : Array Bool) (hs : List It) (kk : Nat) (d : DS) (E : Env) (w : World) (tmps : Array Value) (df : List Deferred) (cs : List Frame)
    (v : INV C fr ops its tm0 d (lst listed) E w0 w b tmps df cs) (hhs : ∀ it ∈ hs, it ∈ its ∧ 3 ≤ it.c) (ex : Ext E0 h0 E d.s.h) (h : Aft C rec fr ops its x hs kk d s') (hf : ∀ i, i < ops.size → lst listed i = true) :
    ∃ E' tmps' df' cs' w', Ext E0 h0 E' s'.h ∧ StR C.gl E' fr s' b tmps' df' cs' w0 w' ∧ CS d.s.u cs cs' ∧ s'.u.isSome = d.s.u.isSome ∧
      Arr C.P E' x (lone (mkF b tmps (.inRegion ops [] :: k) df) cs w) b k tmps' df' cs' w' := by
  have hin : ∀ it ∈ its, lst listed it.i = true := fun it hit => hf _ (Array.getElem?_eq_some_iff.1 (ok.op it hit)).1
  cases hs with
  | cons hd tl =>
    have := notin_I v h.turn.1
    rw [hin hd (hhs hd (List.mem_cons_self ..)).1] at this; cases this
  | nil =>
    cases h with
    | nil h =>
    simp only [full] at h
    split at h
    · cases h
      refine ⟨E, tmps, df, cs, w, ex, ⟨v.st.mr, ?_, v.st.dr, v.st.uk, v.st.fr, v.st.gl⟩, CS.refl v.st.uk, rfl, .one st_end⟩
      refine TR.congr (fun t => ?_) v.st.tr
      show d.s.tm.get t = (tmOf (lst listed) tm0 d.evs).get t
      rw [v.good.tm]
      exact tmOf_same d.evs (fun e' h' q hq => Nat.lt_of_lt_of_le (v.good.dst e' h' q hq) v.st.fr.nt) fun e' h' _ => (hin _ (v.good.mem e' h')).symm
    · cases h

section
variable {C : Cfg} {fr : Fr} {ops : Array Oper} {its : List It} {tm0 : T V}

theorem tail_sound (pr : PrOk C) {rec : Req → M Res} (S : Sound C rec) (ok : ItsOk C.P ops its) (sl : slotOk ops its = true) (bk : backOk its = true) (k : List Item) {E0 : Env} {h0 : H} {w0 : World} {b : Frame} {x : X} :
    ∀ (fuel t : Nat) (listed : Array Bool) (hs : List It) (kk : Nat) (d : DS) (s' : AM.S) (E : Env) (w : World) (tmps : Array Value) (df : List Deferred) (cs : List Frame),
      listed.size = ops.size → listed.toList.count false ≤ fuel → INV C fr ops its tm0 d (lst listed) E w0 w b tmps df cs → Lights C d (lst listed) → Closed its (lst listed) →
      (∀ it ∈ hs, it ∈ its ∧ 3 ≤ it.c) → (∀ it ∈ its, 3 ≤ it.c → it ∈ hs ∨ ∃ e ∈ d.evs, e.it.i = it.i) →
      Ext E0 h0 E d.s.h → Based h0 d → Aft C rec fr ops its x hs kk d s' →
      ∃ E' tmps' df' cs' w', Ext E0 h0 E' s'.h ∧ StR C.gl E' fr s' b tmps' df' cs' w0 w' ∧ CS d.s.u cs cs' ∧ s'.u.isSome = d.s.u.isSome ∧
        Arr C.P E' x (lone (mkF b tmps (.inRegion ops (Region.linearise.go .any ops fuel t listed []) :: k) df) cs w) b k tmps' df' cs' w' := by
  intro fuel
  induction fuel with
  | zero =>
    intro t listed hs kk d s' E w tmps df cs hsz hcnt v lt dc hhs hall ex bs h
    exact (finish_sound ok k listed hs kk d E w tmps df cs v hhs ex h (fun i hi => by
      have h0 : listed.toList.count false = 0 := by omega
      rw [List.count_eq_zero] at h0
      unfold lst
      have hi' : i < listed.size := by omega
      simp only [Array.getD_eq_getD_getElem?, Array.getElem?_eq_getElem hi', Option.getD_some]
      cases hq : listed[i] with
      | true => rfl
      | false => exact absurd (hq ▸ Array.getElem_mem_toList hi') h0))
  | succ fuel ih =>
    intro t listed hs kk d s' E w tmps df cs hsz hcnt v lt dc hhs hall ex bs h
    simp only [Region.linearise.go]
    change ∃ E' tmps' df' cs' w', _ ∧ _ ∧ _ ∧ _ ∧ Arr C.P E' x (lone (mkF b tmps (.inRegion ops (match (Region.ready .any ops listed)[t % (Region.ready .any ops listed).length]? with
      | some i => Region.linearise.go .any ops fuel (t / (Region.ready .any ops listed).length) (listed.setIfInBounds i true) [i]
      | none => [].reverse) :: k) df) cs w) b k tmps' df' cs' w'
    cases hi : (Region.ready .any ops listed)[t % (Region.ready .any ops listed).length]? with
    | none =>
      have hnil : Region.ready .any ops listed = [] := by
        cases hr : Region.ready .any ops listed with
        | nil => rfl
        | cons x xs =>
          rw [hr] at hi
          have hlt : t % (x :: xs).length < (x :: xs).length := Nat.mod_lt _ (by simp)
          simp at hi
          simp at hlt
          omega
      have hfull : ∀ (n i : Nat), i < n → i < ops.size → lst listed i = true := by
        intro n
        induction n with
        | zero => intro i hn; omega
        | succ n ihn =>
          intro i hn his
          cases hq : lst listed i with
          | true => rfl
          | false =>
            exfalso
            obtain ⟨it, hit, hii⟩ := ok.all i his
            have : i ∈ Region.ready .any ops listed := by
              rw [mem_ready]
              refine ⟨by rw [getD_tf (by omega)]; exact hq, it.o, by rw [← hii]; exact ok.op it hit, fun e he hb => ?_⟩
              have hlt : e.on < it.i := by
                have := List.all_eq_true.1 (List.all_eq_true.1 bk it hit) e (by simpa using he)
                rw [hb] at this
                simpa [Nat.blt_eq] using this
              exact ihn e.on (by omega) (by omega)
            rw [hnil] at this; cases this
      exact finish_sound ok k listed hs kk d E w tmps df cs v hhs ex h (fun i hi => hfull (i + 1) i (Nat.lt_succ_self _) hi)
    | some i =>
      simp only []
      rw [linearise_go_acc, List.reverse_singleton, List.singleton_append]
      generalize t / (Region.ready .any ops listed).length = t'
      obtain ⟨r1, o, r2, r3⟩ := mem_ready.1 (List.mem_of_getElem? hi)
      have his : i < ops.size := (Array.getElem?_eq_some_iff.1 r2).1
      have hil : i < listed.size := by omega
      have hIi : lst listed i = false := by rw [getD_tf hil] at r1; exact r1
      have hset := lst_set hil
      have hsz' : (listed.setIfInBounds i true).size = ops.size := by rw [Array.size_setIfInBounds]; exact hsz
      have hcnt' : (listed.setIfInBounds i true).toList.count false ≤ fuel := by
        rw [Array.toList_setIfInBounds, List.count_set (by simpa using hil)]
        have hq : listed.toList[i]'(by simpa using hil) = false := by
          unfold lst at hIi
          simpa [Array.getD_eq_getD_getElem?, hil] using hIi
        rw [hq]
        simp only [BEq.rfl, if_true]
        have : ((true : Bool) == false) = false := rfl
        rw [this]
        simp only [Bool.false_eq_true, if_false]
        omega
      have edges : ∀ it ∈ its, it.i = i → ∀ e ∈ it.o.after.toList, Region.binds .any e = true → lst listed e.on = true := by
        intro it hit hii e he hb
        have := ok.op it hit
        rw [hii, r2] at this
        have e1 := Option.some.inj this
        exact r3 e (by rw [e1]; simpa using he) hb
      have ancs : ∀ it ∈ its, it.i = i → ∀ j, it.anc.testBit j = true → lst listed j = true := fun it hit hii => anc_in ok dc (it.i + 1) it (Nat.lt_succ_self _) hit (edges it hit hii)
      have dc' : Closed its (lst (listed.setIfInBounds i true)) := by
        rw [hset]
        intro it hit hI e he hb
        unfold ins at hI ⊢
        split
        · rfl
        · split at hI
          · rename_i q; exact edges it hit q e he hb
          · exact dc it hit hI e he hb
      -- no heavy item is done that is to come
      have noh : ∀ hd tl, hs = hd :: tl → lst listed hd.i = false := by
        intro hd tl heq
        rw [heq] at h
        exact notin_I v h.turn.1
      obtain ⟨it, hit, hii⟩ := ok.all i his
      by_cases hc : it.c < 3
      · -- it was run before
        have hm : d.mask.testBit i = true := by
          cases hs with
          | nil =>
            cases h with
            | nil h =>
            simp only [full] at h
            split at h
            · rename_i hq
              rw [Nat.eq_of_beq_eq_true hq]; exact two_bit his
            · cases h
          | cons hd tl =>
            have hw := h.turn.2
            have := List.all_eq_true.1 hw it hit
            simp only [Bool.or_eq_true] at this
            rcases this with (q | q) | q
            · exfalso; have := Nat.le_of_ble_eq_true q; omega
            · rw [← hii]; exact q
            · exfalso
              have := ancs it hit hii _ q
              rw [noh hd tl rfl] at this; cases this
        obtain ⟨e, he, hei⟩ := (v.good.mask i).1 hm
        have hec : e.it.c < 3 := by
          rcases ok.uniq e.it (v.good.mem e he) it hit (by rw [hei, hii]) with q | ⟨_, _, q⟩
          · rw [q]; exact hc
          · rw [q]; exact hc
        have hst := pend_done (w := w) ok sl dc v lt he (by rw [hei]; exact hIi) hec (ancs e.it (v.good.mem e he) hei) k (Region.linearise.go .any ops fuel t' (listed.setIfInBounds i true) [])
        obtain ⟨E1, w1, v1, a1, a2, a3, a4, a5⟩ := hst
        rw [hei] at a4 a5
        rw [← hset] at a4
        have ex1 : Ext E0 h0 E1 d.s.h := by
          refine ⟨ex.le.trans a1, fun y hy => ?_, ex.nxt, ex.ghost⟩
          rw [← ex.old y hy]
          by_cases q : E1 y = E y
          · exact q
          · obtain ⟨q1, q2⟩ := a2 y (Nat.lt_of_lt_of_le hy ex.nxt) q
            have := bs e he q2
            omega
        obtain ⟨E', tmps', df', cs', w', b1, b2, b3, b4, b5⟩ := ih t' (listed.setIfInBounds i true) hs kk d s' E1 w1 _ df cs hsz' hcnt' a4
          (by
            rw [hset]
            intro e' he' hI' hk'
            unfold ins at hI'
            split at hI'
            · cases hI'
            · exact lt e' he' hI' hk') dc' hhs hall ex1 bs h
        exact ⟨E', tmps', df', cs', w', b1, b2, b3, b4, Arr.of (.one a5) b5⟩
      · -- a heavy one: the next
        have hc3 : 3 ≤ it.c := by omega
        -- one heavy item is done, and the rest follows
        have goOn : ∀ (tl : List It) (d' d1 : DS) (s1 : AM.S), heavy1 C rec fr ops its it d = .ok (.go d') → phase C fr ops (kk + 1) its d' = some d1 → pendOk C d1.s.h it.anc d1.evs = true → Aft C rec fr ops its x tl (kk + 1) d1 s1 →
            (∀ y ∈ tl, y ∈ its ∧ 3 ≤ y.c) → (∀ y ∈ hs, y = it ∨ y ∈ tl) →
            ∃ E' tmps' df' cs' w', Ext E0 h0 E' s1.h ∧ StR C.gl E' fr s1 b tmps' df' cs' w0 w' ∧ CS d.s.u cs cs' ∧ s1.u.isSome = d.s.u.isSome ∧
              Arr C.P E' x (lone (mkF b tmps (.inRegion ops (i :: Region.linearise.go .any ops fuel t' (listed.setIfInBounds i true) []) :: k) df) cs w) b k tmps' df' cs' w' := by
          intro tl d' d1 s1 hh p1 p2 p3 htl hhs2
          have hst := heavy_step (r := .go d') (w := w) pr S ok sl dc v ex bs hit hc3 (ancs it hit hii) hh k (Region.linearise.go .any ops fuel t' (listed.setIfInBounds i true) [])
          rw [hii] at hst
          obtain ⟨E1, df1, cs1, w1, v1, a1, a2, a3, a4, a5, ⟨e1, ae1, ae2⟩, a6⟩ := hst
          obtain ⟨v2, x2, bs2, u2⟩ := phase_inv its d' d1 (fun _ h => h) p1 a2 a1 a3
          rw [← hset] at v2
          have hsub : ∀ j, lst (listed.setIfInBounds i true) j = true → ∃ e' ∈ d1.evs, e'.it.i = j := v2.sub
          have hin2 : ∀ j, lst listed j = true → lst (listed.setIfInBounds i true) j = true := by
            intro j hj; rw [hset]; unfold ins; split
            · rfl
            · exact hj
          have hini : lst (listed.setIfInBounds i true) i = true := by rw [hset]; unfold ins; rw [if_pos rfl]
          obtain ⟨E', tmps', df', cs', w', b1, b2, b3, b4, b5⟩ := ih t' (listed.setIfInBounds i true) tl (kk + 1) d1 s1 E1 w1 _ df1 cs1 hsz' hcnt' v2
            (by
              intro e' he' hI' hk'
              refine pendOk_spec p2 v2.pur e' he' hk' ?_
              cases hq : it.anc.testBit e'.it.i with
              | false => rfl
              | true =>
                have := hin2 _ (ancs it hit hii _ hq)
                rw [hI'] at this; cases this)
            dc' htl
            (by
              intro y hy hyc
              rcases hall y hy hyc with q | ⟨e, he, hei⟩
              · rcases hhs2 y q with rfl | q
                · exact .inr (by rw [hii]; exact hsub i hini)
                · exact .inl q
              · refine .inr (hsub _ (hin2 _ ?_))
                rw [← hei]
                refine v.heavy e he ?_
                rcases ok.uniq e.it (v.good.mem e he) y hy hei with q | ⟨_, _, q⟩
                · rw [q]; exact hyc
                · rw [q]; exact hyc)
            x2 bs2 p3
          exact ⟨E', tmps', df', cs', w', b1, b2, CS.trans a4 (u2 ▸ b3) (by rw [u2] at *; exact a5), b4.trans (by rw [u2]; exact a5), Arr.of a6 b5⟩
        rcases hall it hit hc3 with hin | ⟨e, he, hei⟩
        · cases h with
          | nil h => cases hin
          | @step hd tl _ _ d' d1 _ c1 hw hh p1 p2 next =>
            have hhd : it = hd := by
              cases hin with
              | head => rfl
              | tail _ hin =>
                exfalso
                have := ancs it hit hii _ (c1 it hin)
                rw [noh hd tl rfl] at this; cases this
            subst hhd
            exact goOn tl d' d1 s' hh p1 p2 next (fun y hy => hhs y (List.mem_cons_of_mem _ hy)) (fun y hy => by
              cases hy with
              | head => exact .inl rfl
              | tail _ q => exact .inr q)
          | @stop hd tl _ _ ch _ c1 hw hh hx =>
            have hhd : it = hd := by
              cases hin with
              | head => rfl
              | tail _ hin =>
                exfalso
                have := ancs it hit hii _ (c1 it hin)
                rw [noh hd tl rfl] at this; cases this
            subst hhd
            subst hx
            have hst := heavy_step (r := .stop ch s') (w := w) pr S ok sl dc v ex bs hit hc3 (ancs it hit hii) hh k (Region.linearise.go .any ops fuel t' (listed.setIfInBounds i true) [])
            rw [hii] at hst
            obtain ⟨E', df', cs', w', todo, ch', a1, a2, a3, a4, a5, a6⟩ := hst
            exact ⟨E', tmps, df', cs', w', a1, a2, a3, a4, todo, ch', a5, a6⟩
          | @fork a b2 _ _ d' d1 e' e1 _ s2 wa wb ha p1 p2 hb q1 q2 na nb eq =>
            have hab : it = a ∨ it = b2 := by
              cases hin with
              | head => exact .inl rfl
              | tail _ hin => cases hin with
                | head => exact .inr rfl
                | tail _ hin => cases hin
            rcases hab with rfl | rfl
            · exact goOn [b2] d' d1 s' ha p1 p2 na (fun y hy => hhs y (List.mem_cons_of_mem _ hy)) (fun y hy => by
                cases hy with
                | head => exact .inl rfl
                | tail _ q => exact .inr q)
            · obtain ⟨E', tmps', df', cs', w', b1, b2, b3, b4, b5⟩ := goOn [a] e' e1 s2 hb q1 q2 nb (fun y hy => by
                have : y = a := by simpa using hy
                subst this; exact hhs y (List.mem_cons_self ..)) (fun y hy => by
                cases hy with
                | head => exact .inr (List.mem_cons_self ..)
                | tail _ q => cases q with
                  | head => exact .inl rfl
                  | tail _ q => cases q)
              exact ⟨E', tmps', df', cs', w', eq.ext b1, eq.str b2, b3, by rw [eq.u]; exact b4, b5⟩
        · have := v.heavy e he (by
            rcases ok.uniq e.it (v.good.mem e he) it hit hei with q | ⟨_, _, q⟩
            · rw [q]; exact hc3
            · rw [q]; exact hc3)
          rw [hei, hii, hIi] at this; cases this
end


/-! ### the last two stores, in any order -/
theorem phase_late {C : Cfg} {fr : Fr} {ops : Array Oper} {k j : Nat} (hj : k < j) : ∀ {l : List It} {d : DS}, (∀ it ∈ l, 3 ≤ it.c ∨ it.lo ≤ k) → phase C fr ops j l d = some d
  | [], d, _ => rfl
  | it :: l, d, h => by
    simp only [phase_n, phase_c]
    have hb : (Nat.beq it.lo j && Nat.blt it.c 3) = false := by
      rw [Bool.and_eq_false_iff]
      rcases h it (List.mem_cons_self ..) with q | q
      · right
        cases hq : Nat.blt it.c 3 with
        | false => rfl
        | true => rw [Nat.blt_eq] at hq; omega
      · left
        cases hq : Nat.beq it.lo j with
        | false => rfl
        | true => have := Nat.eq_of_beq_eq_true hq; omega
    rw [hb]
    exact phase_late hj fun y hy => h y (List.mem_cons_of_mem _ hy)

theorem store_get {P : Program} {gl : List Nat} {tm : T V} {o : Oper} {x a n : Nat} {h h1 : H} (hr : rdCells P gl tm o = some (x, a, n)) (hs : astore P gl tm h o = some h1) :
    ∃ ob, h1 = h.put x ob ∧ ∀ h2 h3, h2.get x = h.get x → astore P gl tm h2 o = some h3 → h3 = h2.put x ob := by
  unfold astore at hs
  unfold rdCells at hr
  split at hs
  · rename_i t ad v hop
    rw [hop] at hr
    simp only at hr
    split at hs
    · rename_i b off v n' e1 e2 e3
      rw [e1, e3] at hr
      cases hr
      split at hs
      · rename_i hl
        unfold H.wrN at hs
        split at hs
        · rename_i opn cs hg
          split at hs
          · cases hs
            refine ⟨_, rfl, fun h2 h3 e hs2 => ?_⟩
            unfold astore at hs2
            rw [hop] at hs2
            simp only [e1, e2, e3, if_pos hl] at hs2
            unfold H.wrN at hs2
            rw [e, hg] at hs2
            simp only at hs2
            split at hs2
            all_goals first | (cases hs2; rfl) | cases hs2
          · cases hs
        · cases hs
      · cases hs
    · cases hs
  · cases hs

theorem heavy1_store {C : Cfg} {rec : Req → M Res} {fr : Fr} {ops : Array Oper} {its : List It} {it : It} {d d1 : DS} (hg : it.o.guard = none) (hd : it.o.dst = none) (hc : it.c = 3) (h : heavy1 C rec fr ops its it d = .ok (.go d1)) :
    ∃ h1, astore C.P C.gl (AM.sub d.s.tm (tmpsOf ops it.o)) d.s.h it.o = some h1 ∧ d1.s = { d.s with h := h1 } := by
  have hw : wantedA ops it.o (AM.sub d.s.tm (tmpsOf ops it.o)) = some true := by unfold wantedA; rw [hg]
  unfold heavy1 at h
  simp only [hw] at h
  split at h
  · rename_i e; cases e
  · rw [hc] at h
    simp only at h
    split at h
    · rename_i h1 hs
      split at h
      · rename_i d' hadd
        cases h
        refine ⟨h1, hs, ?_⟩
        unfold DS.add at hadd
        rw [hd] at hadd
        simp only [putT] at hadd
        cases hadd
        rfl
      · cases h
    · cases h
  · cases h

theorem stores_eqv {C : Cfg} {rec : Req → M Res} {fr : Fr} {ops : Array Oper} {its : List It} {a b : It} {d d1 d2 c1 c2 : DS} (ht : twoStores C ops a b d = true) (ha : heavy1 C rec fr ops its a d = .ok (.go d1)) (hb : heavy1 C rec fr ops its b d1 = .ok (.go d2))
    (hb' : heavy1 C rec fr ops its b d = .ok (.go c1)) (ha' : heavy1 C rec fr ops its a c1 = .ok (.go c2)) : Eqv c2.s d2.s := by
  unfold twoStores at ht
  split at ht
  · rename_i ga gb da db
    split at ht
    · rename_i x _ _ y _ _ rx ry
      simp only [Bool.and_eq_true, Bool.not_eq_true'] at ht
      obtain ⟨⟨⟨⟨ca, cb⟩, hne⟩, hx⟩, hy⟩ := ht
      have ca := Nat.eq_of_beq_eq_true ca
      have cb := Nat.eq_of_beq_eq_true cb
      have hne : x ≠ y := by rintro rfl; rw [Nat.beq_refl] at hne; cases hne
      have hx : x < AM.lim := by rwa [Nat.blt_eq] at hx
      have hy : y < AM.lim := by rwa [Nat.blt_eq] at hy
      obtain ⟨h1, s1, q1⟩ := heavy1_store ga da ca ha
      obtain ⟨h2, s2, q2⟩ := heavy1_store gb db cb hb
      obtain ⟨g1, t1, r1⟩ := heavy1_store gb db cb hb'
      obtain ⟨g2, t2, r2⟩ := heavy1_store ga da ca ha'
      have e1 : d1.s.tm = d.s.tm := by rw [q1]
      have e2 : d1.s.h = h1 := by rw [q1]
      rw [e1, e2] at s2
      have f1 : c1.s.tm = d.s.tm := by rw [r1]
      have f2 : c1.s.h = g1 := by rw [r1]
      rw [f1, f2] at t2
      obtain ⟨oa, p1, p2⟩ := store_get rx s1
      obtain ⟨ob, p3, p4⟩ := store_get ry t1
      have k1 : h2 = h1.put y ob := p4 h1 h2 (by rw [p1, H.get_put hx, if_neg (fun e => hne e.symm)]) s2
      have k2 : g2 = g1.put x oa := p2 g1 g2 (by rw [p3, H.get_put hy, if_neg hne]) t2
      rw [q2, q1, r2, r1]
      refine ⟨fun _ => rfl, rfl, rfl, ?_, fun c => ?_⟩
      · show h2.nxt = g2.nxt
        rw [k1, k2, p1, p3]; rfl
      · show h2.get c = g2.get c
        rw [k1, k2, H.get_put hy, H.get_put hx, p1, p3, H.get_put hx, H.get_put hy]
        by_cases cx : c = x
        · subst cx; simp only [if_neg hne, if_true]
        · by_cases cy : c = y
          · subst cy; simp only [if_true, if_neg cx]
          · simp only [if_neg cy, if_neg cx]
    · cases ht
  · cases ht

theorem fork_aft {C : Cfg} {rec : Req → M Res} {fr : Fr} {ops : Array Oper} {its : List It} {x : X} {a b : It} {k : Nat} {d : DS} {s' : AM.S} (h : forkFin C rec fr ops its a b k d = .ok (.x x s')) : Aft C rec fr ops its x [a, b] k d s' := by
  unfold forkFin at h
  split at h
  · cases h
  · rename_i hq
    simp only [Bool.and_eq_true] at hq
    obtain ⟨⟨⟨hts, hnl⟩, wa⟩, wb⟩ := hq
    have hl : ∀ it ∈ its, 3 ≤ it.c ∨ it.lo ≤ k := by
      intro it hit
      have := List.all_eq_true.1 hnl it hit
      simp only [Bool.or_eq_true] at this
      exact this.imp Nat.le_of_ble_eq_true Nat.le_of_ble_eq_true
    split at h
    · rename_i d1 e1 ha hb'
      split at h
      · cases h
      · rename_i hq
        simp only [Bool.and_eq_true] at hq
        obtain ⟨⟨⟨p1, p2⟩, w1⟩, w2⟩ := hq
        split at h
        · rename_i d2 e2 hb ha'
          split at h
          · rename_i hq
            simp only [Bool.and_eq_true] at hq
            obtain ⟨⟨⟨p3, p4⟩, m1⟩, m2⟩ := hq
            cases h
            have one : ∀ {y : It}, ∀ z ∈ ([] : List It), z.anc.testBit y.i = true := fun z hz => by cases hz
            refine .fork wa wb ha (phase_late (by omega) hl) p1 hb' (phase_late (by omega) hl) p2 (.step one w1 hb (phase_late (by omega) hl) p3 (.nil ?_)) (.step one w2 ha' (phase_late (by omega) hl) p4 (.nil (s' := e2.s) ?_)) (stores_eqv hts ha hb hb' ha')
            · unfold full; rw [m1]
            · unfold full; rw [m2]
          · cases h
        · cases h
    · cases h

theorem phases_fork {C : Cfg} {rec : Req → M Res} {fr : Fr} {ops : Array Oper} {its : List It} {x : X} {a b : It} {s' : AM.S} : ∀ {f : List It} {k anc : Nat} {d : DS}, chainOk (f ++ [a]) = true → chainOk (f ++ [b]) = true →
    phases C rec fr ops its (forkFin C rec fr ops its a b (k + f.length)) f k anc d = .ok (.x x s') → ∃ d1, phase C fr ops k its d = some d1 ∧ pendOk C d1.s.h anc d1.evs = true ∧ Aft C rec fr ops its x (f ++ [a, b]) k d1 s'
  | [], k, anc, d, _, _, h => by
    unfold phases at h
    split at h
    · cases h
    · rename_i d1 h1
      split at h
      · cases h
      · rename_i h2
        exact ⟨d1, h1, h2, fork_aft h⟩
  | hd :: f, k, anc, d, ca, cb, h => by
    obtain ⟨a1, a2⟩ := chain_head ca
    obtain ⟨b1, b2⟩ := chain_head cb
    have ho : ∀ y ∈ f ++ [a, b], y.anc.testBit hd.i = true := by
      intro y hy
      rcases List.mem_append.1 hy with hy | hy
      · exact a1 y (List.mem_append_left _ hy)
      · cases hy with
        | head => exact a1 a (by simp)
        | tail _ hy => cases hy with
          | head => exact b1 b (by simp)
          | tail _ hy => cases hy
    unfold phases at h
    split at h
    · cases h
    · rename_i d1 h1
      split at h
      · cases h
      · rename_i h2
        refine ⟨d1, h1, h2, ?_⟩
        split at h
        · rename_i e; cases e
        · rename_i it hs e
          cases e
          split at h
          · cases h
          · rename_i hw
            split at h
            · cases h
            · rename_i ch s hh
              cases h
              exact .stop ho hw hh rfl
            · rename_i d' hh
              have hk : k + (hd :: f).length = (k + 1) + f.length := by simp; omega
              rw [hk] at h
              obtain ⟨d2, g1, g2, g3⟩ := phases_fork a2 b2 h
              exact .step ho hw hh g1 g2 g3

theorem last2_spec : ∀ {l f : List It} {a b : It}, last2 l = some (f, a, b) → l = f ++ [a, b]
  | [], _, _, _, h => by simp [last2] at h
  | [_], _, _, _, h => by simp [last2] at h
  | [x, y], f, a, b, h => by simp only [last2] at h; cases h; rfl
  | x :: y :: c :: r, f, a, b, h => by
    simp only [last2] at h
    split at h
    · rename_i f' a' b' h'
      cases h
      rw [last2_spec h']; rfl
    · cases h

theorem drawn_sound {C : Cfg} (pr : PrOk C) {rec : Req → M Res} (S : Sound C rec) {fr : Fr} {id : Nat} {ops : Array Oper} {s : AM.S} {x : X} {s' : AM.S} (h : drawnOps C rec fr ops s = .ok (.x x s')) : SItem C.P C.gl fr (.code (.region id ops true)) s x s' := by
  unfold drawnOps at h
  simp only at h
  split at h
  · cases h
  · rename_i hq
    simp only [Bool.and_eq_true] at hq
    obtain ⟨sl, bk⟩ := hq
    have ok := items_ok (P := C.P) ops
    generalize items C.P ops.toList = its at *
    have key : ∃ d1, phase C fr ops 0 its ⟨s, [], 0⟩ = some d1 ∧ pendOk C d1.s.h 0 d1.evs = true ∧ Aft C rec fr ops its x (its.filter fun it => Nat.ble 3 it.c) 0 d1 s' := by
      split at h
      · rename_i ch
        obtain ⟨d1, p1, p2, p3⟩ := phases_after h
        exact ⟨d1, p1, p2, Aft.of_chain ch p3⟩
      · split at h
        · rename_i f a b hl
          split at h
          · rename_i hc
            simp only [Bool.and_eq_true] at hc
            have h : phases C rec fr ops its (forkFin C rec fr ops its a b (0 + f.length)) f 0 0 ⟨s, [], 0⟩ = .ok (.x x s') := by rw [Nat.zero_add]; exact h
            rw [last2_spec hl]
            exact phases_fork hc.1 hc.2 h
          · cases h
        · cases h
    · intro E w0 w b tmps df cs k st
      obtain ⟨d1, p1, p2, p3⟩ := key
      have hI : lst (Array.replicate ops.size false) = fun _ => false := by
        funext j
        unfold lst
        simp [Array.getD_eq_getD_getElem?, Array.getElem?_replicate]
        split <;> rfl
      have m0 := st.mr.drawn (w.drawn + 1)
      have v0 : INV C fr ops its s.tm ⟨s, [], 0⟩ (lst (Array.replicate ops.size false)) E w0 { w with drawn := w.drawn + 1 } b tmps df cs := by
        rw [hI]
        exact ⟨Good.nil, ⟨m0, st.tr, st.dr, st.uk, st.fr, st.gl⟩, (fun i hi => by cases hi), (fun e he => by cases he), (fun e he => by cases he), (fun e he => by cases he), (fun e he => by cases he)⟩
      obtain ⟨v1, x1, bs1, u1⟩ := phase_inv (E0 := E) (h0 := s.h) its _ d1 (fun _ h => h) p1 v0 (Ext.refl _ _) (fun e he => by cases he)
      obtain ⟨E', tmps', df', cs', w', b1, b2, b3, b4, b5⟩ := tail_sound pr S ok sl bk k ops.size (w.tape w.drawn (.order b.fn id)) (Array.replicate ops.size false) _ 0 d1 s' E { w with drawn := w.drawn + 1 } tmps df cs
        (by simp) (by simp) v1
        (by
          intro e' he' hI' hk'
          exact pendOk_spec p2 v1.pur e' he' hk' (Nat.zero_testBit _))
        (by rw [hI]; intro it hit hz; cases hz)
        (fun it hit => by
          obtain ⟨q1, q2⟩ := List.mem_filter.1 hit
          exact ⟨q1, Nat.le_of_ble_eq_true q2⟩)
        (fun it hit hc => .inl (List.mem_filter.2 ⟨hit, Nat.ble_eq_true_of_le hc⟩)) x1 bs1 p3
      refine ⟨E', tmps', df', cs', w', b1, b2, u1 ▸ b3, by rw [b4, u1], Arr.of (.one ?_) b5⟩
      rw [st_draw]
      simp only [Region.schedule, pr.mix, Bool.true_or, if_true]
      rfl

end
end Go.AM
