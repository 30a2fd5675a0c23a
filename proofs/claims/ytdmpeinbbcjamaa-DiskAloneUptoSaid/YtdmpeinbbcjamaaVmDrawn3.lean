/- The machine of values: regions whose order is drawn: the whole of them. -/
import Derived.Test.YtdmpeinbbcjamaaVmDrawn2
set_option linter.unusedVariables false
set_option linter.unusedSimpArgs false
namespace Go.VM
open Go.RowKit

def lst (l : Array Bool) : Nat → Bool := fun j => l.getD j false

theorem lst_set {l : Array Bool} {i : Nat} (h : i < l.size) : lst (l.setIfInBounds i true) = ins (lst l) i := by
  funext j
  unfold lst ins
  by_cases q : j = i
  · subst q
    rw [if_pos rfl]
    simp [Array.getD_eq_getD_getElem?, h]
  · rw [if_neg q, getD_set_ne false (fun z => q z.symm)]

theorem getD_tf {l : Array Bool} {i : Nat} (h : i < l.size) : l.getD i true = l.getD i false := by
  simp [Array.getD_eq_getD_getElem?, h]

theorem finish_sound {P : Program} {gl : List Nat} {fr : Fr} {ops : Array Oper} {its : List It} {tm0 : TM} (ok : ItsOk P ops its) (k : List Item) {E0 : Env} {h0 : H} {w0 : World} {b : Frame} {x : X} {s' : S}
    (listed : Array Bool) (hs : List It) (d : DS) (E : Env) (F : Fx) (w : World) (tmps : Array Value) (df : List Deferred) (cs : List Frame)
    (v : INV P gl fr ops its tm0 d (lst listed) E F w0 w b tmps df cs) (hhs : ∀ it ∈ hs, it ∈ its ∧ 3 ≤ it.c) (ex : Ext E0 h0 E d.s.h) (h : Dr P gl fr ops its x s' hs d) (hf : ∀ i, i < ops.size → lst listed i = true) :
    ∃ E' F' tmps' df' cs' w', Ext E0 h0 E' s'.h ∧ F'.prot = F.prot ∧ StR gl E' F' fr s' b tmps' df' cs' w0 w' ∧ CS d.s.u cs cs' ∧ s'.u.isSome = d.s.u.isSome ∧
      Arr P E' x (lone (mkF b tmps (.inRegion ops [] :: k) df) cs w) b k tmps' df' cs' w' := by
  have hin : ∀ it ∈ its, lst listed it.i = true := fun it hit => hf _ (Array.getElem?_eq_some_iff.1 (ok.op it hit)).1
  cases hs with
  | cons hd tl =>
    have := notin_I v h.head.1
    rw [hin hd (hhs hd (List.mem_cons_self ..)).1] at this; cases this
  | nil =>
    cases h with
    | fin hx hs hm =>
      subst hx; subst hs
      refine ⟨E, F, tmps, df, cs, w, ex, rfl, ⟨v.st.mr, ?_, v.st.dr, v.st.uk, v.st.fr, v.st.gl⟩, CS.refl v.st.uk, rfl, .one st_end⟩
      refine TR.congr (fun t => ?_) v.st.tr
      show tg d.s.tm t = tg (tmOf (lst listed) tm0 d.evs) t
      rw [v.good.tm]
      exact tmOf_same d.evs fun e' h' _ => (hin _ (v.good.mem e' h')).symm

section
variable {P : Program} {gl : List Nat} {fr : Fr} {ops : Array Oper} {its : List It} {tm0 : TM}

theorem tail_sound (ok : ItsOk P ops its) (sl : slotOk ops its = true) (bk : backOk its = true) (k : List Item) {E0 : Env} {h0 : H} {w0 : World} {b : Frame} {x : X} {s' : S} :
    ∀ (fuel t : Nat) (listed : Array Bool) (hs : List It) (d : DS) (E : Env) (F : Fx) (w : World) (tmps : Array Value) (df : List Deferred) (cs : List Frame),
      listed.size = ops.size → listed.toList.count false ≤ fuel → INV P gl fr ops its tm0 d (lst listed) E F w0 w b tmps df cs → Lights P gl fr d (lst listed) → Closed its (lst listed) →
      chainOk hs = true → (∀ it ∈ hs, it ∈ its ∧ 3 ≤ it.c) → (∀ it ∈ its, 3 ≤ it.c → it ∈ hs ∨ ∃ e ∈ d.evs, e.it.i = it.i) →
      Ext E0 h0 E d.s.h → Based h0 d → Dr P gl fr ops its x s' hs d →
      ∃ E' F' tmps' df' cs' w', Ext E0 h0 E' s'.h ∧ F'.prot = F.prot ∧ StR gl E' F' fr s' b tmps' df' cs' w0 w' ∧ CS d.s.u cs cs' ∧ s'.u.isSome = d.s.u.isSome ∧
        Arr P E' x (lone (mkF b tmps (.inRegion ops (Region.linearise.go .any ops fuel t listed []) :: k) df) cs w) b k tmps' df' cs' w' := by
  intro fuel
  induction fuel with
  | zero =>
    intro t listed hs d E F w tmps df cs hsz hcnt v lt dc ch hhs hall ex bs h
    exact (finish_sound ok k listed hs d E F w tmps df cs v hhs ex h (fun i hi => by
      have h0 : listed.toList.count false = 0 := by omega
      rw [List.count_eq_zero] at h0
      unfold lst
      have hi' : i < listed.size := by omega
      simp only [Array.getD_eq_getD_getElem?, Array.getElem?_eq_getElem hi', Option.getD_some]
      cases hq : listed[i] with
      | true => rfl
      | false => exact absurd (hq ▸ Array.getElem_mem_toList hi') h0))
  | succ fuel ih =>
    intro t listed hs d E F w tmps df cs hsz hcnt v lt dc ch hhs hall ex bs h
    simp only [Region.linearise.go]
    change ∃ E' F' tmps' df' cs' w', _ ∧ _ ∧ _ ∧ _ ∧ _ ∧ Arr P E' x (lone (mkF b tmps (.inRegion ops (match (Region.ready .any ops listed)[t % (Region.ready .any ops listed).length]? with
      | some i => Region.linearise.go .any ops fuel (t / (Region.ready .any ops listed).length) (listed.setIfInBounds i true) [i]
      | none => [].reverse) :: k) df) cs w) b k tmps' df' cs' w'
    cases hi : (Region.ready .any ops listed)[t % (Region.ready .any ops listed).length]? with
    | none =>
      have hnil : Region.ready .any ops listed = [] := by
        cases hr : Region.ready .any ops listed with
        | nil => rfl
        | cons x xs =>
          rw [hr] at hi
          have hlt : t % (x :: xs).length < (x :: xs).length := Nat.mod_lt _ (by simp)
          simp at hi
          simp at hlt
          omega
      have hfull : ∀ (n i : Nat), i < n → i < ops.size → lst listed i = true := by
        intro n
        induction n with
        | zero => intro i hn; omega
        | succ n ihn =>
          intro i hn his
          cases hq : lst listed i with
          | true => rfl
          | false =>
            exfalso
            obtain ⟨it, hit, hii⟩ := ok.all i his
            have : i ∈ Region.ready .any ops listed := by
              rw [mem_ready]
              refine ⟨by rw [getD_tf (by omega)]; exact hq, it.o, by rw [← hii]; exact ok.op it hit, fun e he hb => ?_⟩
              have hlt : e.on < it.i := by
                have := List.all_eq_true.1 (List.all_eq_true.1 bk it hit) e (by simpa using he)
                rw [hb] at this
                simpa [Nat.blt_eq] using this
              exact ihn e.on (by omega) (by omega)
            rw [hnil] at this; cases this
      exact finish_sound ok k listed hs d E F w tmps df cs v hhs ex h (fun i hi => hfull (i + 1) i (Nat.lt_succ_self _) hi)
    | some i =>
      simp only []
      rw [linearise_go_acc, List.reverse_singleton, List.singleton_append]
      generalize t / (Region.ready .any ops listed).length = t'
      obtain ⟨r1, o, r2, r3⟩ := mem_ready.1 (List.mem_of_getElem? hi)
      have his : i < ops.size := (Array.getElem?_eq_some_iff.1 r2).1
      have hil : i < listed.size := by omega
      have hIi : lst listed i = false := by rw [getD_tf hil] at r1; exact r1
      have hset := lst_set hil
      have hsz' : (listed.setIfInBounds i true).size = ops.size := by rw [Array.size_setIfInBounds]; exact hsz
      have hcnt' : (listed.setIfInBounds i true).toList.count false ≤ fuel := by
        rw [Array.toList_setIfInBounds, List.count_set (by simpa using hil)]
        have hq : listed.toList[i]'(by simpa using hil) = false := by
          unfold lst at hIi
          simpa [Array.getD_eq_getD_getElem?, hil] using hIi
        rw [hq]
        simp only [BEq.rfl, if_true]
        have : ((true : Bool) == false) = false := rfl
        rw [this]
        simp only [Bool.false_eq_true, if_false]
        omega
      have edges : ∀ it ∈ its, it.i = i → ∀ e ∈ it.o.after.toList, Region.binds .any e = true → lst listed e.on = true := by
        intro it hit hii e he hb
        have := ok.op it hit
        rw [hii, r2] at this
        have e1 := Option.some.inj this
        exact r3 e (by rw [e1]; simpa using he) hb
      have ancs : ∀ it ∈ its, it.i = i → ∀ j, it.anc.testBit j = true → lst listed j = true := fun it hit hii => anc_in ok dc (it.i + 1) it (Nat.lt_succ_self _) hit (edges it hit hii)
      have dc' : Closed its (lst (listed.setIfInBounds i true)) := by
        rw [hset]
        intro it hit hI e he hb
        unfold ins at hI ⊢
        split
        · rfl
        · split at hI
          · rename_i q; exact edges it hit q e he hb
          · exact dc it hit hI e he hb
      have noh : ∀ hd tl, hs = hd :: tl → lst listed hd.i = false := by
        intro hd tl heq
        rw [heq] at h
        exact notin_I v h.head.1
      obtain ⟨it, hit, hii⟩ := ok.all i his
      by_cases hc : it.c < 3
      · -- it was run before
        have hm : d.mask.testBit i = true := by
          cases hs with
          | nil =>
            cases h with
            | fin hx hse hm =>
              unfold fullM at hm
              rw [Nat.eq_of_beq_eq_true hm]; exact two_bit his
          | cons hd tl =>
            have hw := h.head.2
            have := List.all_eq_true.1 hw it hit
            simp only [Bool.or_eq_true] at this
            rcases this with (q | q) | q
            · exfalso; have := Nat.le_of_ble_eq_true q; omega
            · rw [← hii]; exact q
            · exfalso
              have := ancs it hit hii _ q
              rw [noh hd tl rfl] at this; cases this
        obtain ⟨e, he, hei⟩ := (v.good.mask i).1 hm
        have hec : e.it.c < 3 := by
          rcases ok.uniq e.it (v.good.mem e he) it hit (by rw [hei, hii]) with q | ⟨_, _, q⟩
          · rw [q]; exact hc
          · rw [q]; exact hc
        have hst := pend_done (w := w) ok sl dc v lt he (by rw [hei]; exact hIi) hec (ancs e.it (v.good.mem e he) hei) k (Region.linearise.go .any ops fuel t' (listed.setIfInBounds i true) [])
        obtain ⟨E1, F1, w1, v1, a1, a2, f1, f2, a4, a5⟩ := hst
        rw [hei] at a4 a5
        rw [← hset] at a4
        have ex1 : Ext E0 h0 E1 d.s.h := by
          refine ⟨ex.le.trans a1, fun y hy => ?_, ex.nxt, ex.ghost⟩
          rw [← ex.old y hy]
          by_cases q : E1.ob y = E.ob y
          · exact q
          · obtain ⟨q1, q2⟩ := a2 y (Nat.lt_of_lt_of_le hy ex.nxt) q
            have := bs e he q2
            omega
        obtain ⟨E', F', tmps', df', cs', w', b1, b1f, b2, b3, b4, b5⟩ := ih t' (listed.setIfInBounds i true) hs d E1 F1 w1 _ df cs hsz' hcnt' a4
          (by
            rw [hset]
            intro e' he' hI' hk'
            unfold ins at hI'
            split at hI'
            · cases hI'
            · exact lt e' he' hI' hk') dc' ch hhs hall ex1 bs h
        exact ⟨E', F', tmps', df', cs', w', b1, b1f.trans f2, b2, b3, b4, Arr.of (.one a5) b5⟩
      · -- a heavy one: the next
        have hc3 : 3 ≤ it.c := by omega
        rcases hall it hit hc3 with hin | ⟨e, he, hei⟩
        · cases hs with
          | nil => cases hin
          | cons hd tl =>
            obtain ⟨c1, c2⟩ := chain_head ch
            have hhd : it = hd := by
              cases hin with
              | head => rfl
              | tail _ hin =>
                exfalso
                have := ancs it hit hii _ (c1 it hin)
                rw [noh hd tl rfl] at this; cases this
            subst hhd
            -- what is done behind it
            have rest : ∀ (d1 d2 : DS) (E1 : Env) (F1 : Fx) (df1 : List Deferred) (cs1 : List Frame) (w1 : World) (v1 : Value), Ext E0 h0 E1 d1.s.h → INV P gl fr ops its tm0 d1 (ins (lst listed) it.i) E1 F1 w0 w1 b (putA tmps it.o.dst v1) df1 cs1 → Based h0 d1 → CS d.s.u cs cs1 → d1.s.u.isSome = d.s.u.isSome → F1.prot = F.prot →
                Ph P gl fr ops its d1 d2 → Pend P gl fr d2.s.h it.anc d2.evs → Dr P gl fr ops its x s' tl d2 →
                Steps P (lone (mkF b tmps (.inRegion ops (i :: Region.linearise.go .any ops fuel t' (listed.setIfInBounds i true) []) :: k) df) cs w) (lone (mkF b (putA tmps it.o.dst v1) (.inRegion ops (Region.linearise.go .any ops fuel t' (listed.setIfInBounds i true) []) :: k) df1) cs1 w1) →
                ∃ E' F' tmps' df' cs' w', Ext E0 h0 E' s'.h ∧ F'.prot = F.prot ∧ StR gl E' F' fr s' b tmps' df' cs' w0 w' ∧ CS d.s.u cs cs' ∧ s'.u.isSome = d.s.u.isSome ∧
                  Arr P E' x (lone (mkF b tmps (.inRegion ops (i :: Region.linearise.go .any ops fuel t' (listed.setIfInBounds i true) []) :: k) df) cs w) b k tmps' df' cs' w' := by
              intro d1 d2 E1 F1 df1 cs1 w1 v1 a1 a2 a3 a4 a5 a5f p1 p2 p3 a6
              obtain ⟨v2, x2, bs2, u2⟩ := ph_inv ok p1 a2 a1 a3
              rw [hii, ← hset] at v2
              have hsub : ∀ j, lst (listed.setIfInBounds i true) j = true → ∃ e' ∈ d2.evs, e'.it.i = j := v2.sub
              have hin2 : ∀ j, lst listed j = true → lst (listed.setIfInBounds i true) j = true := by
                intro j hj; rw [hset]; unfold ins; split
                · rfl
                · exact hj
              have hini : lst (listed.setIfInBounds i true) i = true := by rw [hset]; unfold ins; rw [if_pos rfl]
              obtain ⟨E', F', tmps', df', cs', w', b1, b1f, b2, b3, b4, b5⟩ := ih t' (listed.setIfInBounds i true) tl d2 E1 F1 w1 _ df1 cs1 hsz' hcnt' v2
                (by
                  intro e' he' hI' hk'
                  refine p2.spec e' he' hk' ?_
                  cases hq : it.anc.testBit e'.it.i with
                  | false => rfl
                  | true =>
                    have := hin2 _ (ancs it hit hii _ hq)
                    rw [hI'] at this; cases this)
                dc' c2 (fun y hy => hhs y (List.mem_cons_of_mem _ hy))
                (by
                  intro y hy hyc
                  rcases hall y hy hyc with q | ⟨e, he, hei⟩
                  · cases q with
                    | head => exact .inr (by rw [hii]; exact hsub i hini)
                    | tail _ q => exact .inl q
                  · refine .inr (hsub _ (hin2 _ ?_))
                    rw [← hei]
                    refine v.heavy e he ?_
                    rcases ok.uniq e.it (v.good.mem e he) y hy hei with q | ⟨_, _, q⟩
                    · rw [q]; exact hyc
                    · rw [q]; exact hyc)
                x2 bs2 p3
              exact ⟨E', F', tmps', df', cs', w', b1, b1f.trans a5f, b2, CS.trans a4 (u2 ▸ b3) a5, b4.trans (by rw [u2]; exact a5), Arr.of a6 b5⟩
            have hop := ok.op it hit
            have haI : ∀ j, it.anc.testBit j = true → lst listed j = true := ancs it hit hii
            have trm := heavy_tr sl v hit haI
            cases h with
            | @skip _ _ _ d1 d2 ht hwt hw ha ph pd next =>
              have hw' := wanted_sound hw (trm ht)
              obtain ⟨g1, g2, g3, g4, g5⟩ := heavy_fin (v' := undef) v ex bs hit hc3 ht ha (.inl rfl) (fun _ => ⟨hw, rfl⟩) (fun q => absurd rfl q) (Ext.refl _ _) rfl v.st.mr v.st.dr v.st.uk (.v _ _ (.tup [] #[] .nil))
              rw [hii] at hop
              exact rest d1 d2 E F df cs w undef g1 g2 g3 (CS.refl v.st.uk) (by rw [g4]) rfl ph pd next (.one (st_op_skip hop hw'))
            | @go _ _ _ d1 d2 u s2 ht hwt hw hpr ha ph pd next =>
              have hw' := wanted_sound hw (trm ht)
              obtain ⟨q0, E1, F1, df1, cs1, w1, v1, q1, q2, q3, q4, q5, q6, q7, q8⟩ := hpr E F w0 w b tmps df cs k ops it.i (Region.linearise.go .any ops fuel t' (listed.setIfInBounds i true) [])
                ⟨v.st.mr, trm ht, v.st.dr, v.st.uk, v.st.fr, v.st.gl⟩ hop hw'
              obtain ⟨g1, g2, g3, g4, g5⟩ := heavy_fin v ex bs hit hc3 ht ha (.inr rfl) (fun q => by cases q) (fun _ => hw) q1 q2 q4.mr q4.dr q4.uk q7
              rw [hii] at q8
              exact rest d1 d2 E1 F1 df1 cs1 w1 v1 g1 g2 g3 q5 (by rw [g4]; exact q6) q3 ph pd next q8
            | @stop _ _ _ pch s2 ht hwt hw hpr hx hse =>
              have hw' := wanted_sound hw (trm ht)
              subst hx; subst hse
              obtain ⟨q0, E1, F1, df1, cs1, w1, todo, pch', q1, q2, q3, q4, q5, q6, q7, q8⟩ := hpr E F w0 w b tmps df cs k ops it.i (Region.linearise.go .any ops fuel t' (listed.setIfInBounds i true) [])
                ⟨v.st.mr, trm ht, v.st.dr, v.st.uk, v.st.fr, v.st.gl⟩ hop hw'
              rw [hii] at q8
              refine ⟨E1, F1, tmps, df1, cs1, w1, ex.trans q1, q3, ⟨q4.mr, ⟨q4.tr.1, fun t u hu => ?_⟩, q4.dr, q4.uk, q4.fr, q4.gl⟩, q5, q6, todo, pch', q7, q8⟩
              obtain ⟨c1, c2⟩ := clearD_get hu
              rw [v.good.tm] at c1
              refine (v.st.tr.mono q1.le (fun _ _ e => by rw [q2]; exact e)).2 t u ?_
              show tg (tmOf (lst listed) tm0 d.evs) t = some u
              rw [← c1]
              exact tmOf_same d.evs fun e' h' hd => absurd hd (c2 _ (v.good.mem e' h'))
        · have := v.heavy e he (by
            rcases ok.uniq e.it (v.good.mem e he) it hit hei with q | ⟨_, _, q⟩
            · rw [q]; exact hc3
            · rw [q]; exact hc3)
          rw [hei, hii, hIi] at this; cases this
end

/-- what a region must be. -/
def regOk (P : Program) (ops : Array Oper) (its : List It) : Bool := slotOk ops its && backOk its && chainOk (its.filter fun it => Nat.ble 3 it.c)

theorem drawn_sound {P : Program} {gl : List Nat} {fr : Fr} {id : Nat} {ops : Array Oper} {its : List It} {s : S} {x : X} {s' : S} {d1 : DS} (hmix : P.follows .mixedOrders = true) (hits : items P ops.toList = its) (hok : regOk P ops its = true)
    (ph : Ph P gl fr ops its ⟨s, [], 0⟩ d1) (dr : Dr P gl fr ops its x s' (its.filter fun it => Nat.ble 3 it.c) d1) (pd : Pend P gl fr d1.s.h 0 d1.evs) : SItem P gl fr (.code (.region id ops true)) s x s' := by
  simp only [regOk, Bool.and_eq_true] at hok
  obtain ⟨⟨sl, bk⟩, ch⟩ := hok
  have ok := items_ok (P := P) ops
  rw [hits] at ok
  intro E F w0 w b tmps df cs k st
  have hI : lst (Array.replicate ops.size false) = fun _ => false := by
    funext j
    unfold lst
    simp [Array.getD_eq_getD_getElem?, Array.getElem?_replicate]
    split <;> rfl
  have m0 := st.mr.drawn (w.drawn + 1)
  have v0 : INV P gl fr ops its s.tm ⟨s, [], 0⟩ (lst (Array.replicate ops.size false)) E F w0 { w with drawn := w.drawn + 1 } b tmps df cs := by
    rw [hI]
    exact ⟨Good.nil, ⟨m0, st.tr, st.dr, st.uk, st.fr, st.gl⟩, (fun i hi => by cases hi), (fun e he => by cases he), (fun e he => by cases he), (fun e he => by cases he), (fun e he => by cases he), (fun e he => by cases he), (fun e he => by cases he)⟩
  obtain ⟨v1, x1, bs1, u1⟩ := ph_inv (E0 := E) (h0 := s.h) ok ph v0 (Ext.refl _ _) (fun e he => by cases he)
  obtain ⟨E', F', tmps', df', cs', w', b1, b1f, b2, b3, b4, b5⟩ := tail_sound ok sl bk k ops.size (w.tape w.drawn (.order b.fn id)) (Array.replicate ops.size false) _ d1 E F { w with drawn := w.drawn + 1 } tmps df cs
    (by simp) (by simp) v1
    (by
      intro e' he' hI' hk'
      exact pd.spec e' he' hk' (Nat.zero_testBit _))
    (by rw [hI]; intro it hit hz; cases hz) ch
    (fun it hit => by
      obtain ⟨q1, q2⟩ := List.mem_filter.1 hit
      exact ⟨q1, Nat.le_of_ble_eq_true q2⟩)
    (fun it hit hc => .inl (List.mem_filter.2 ⟨hit, Nat.ble_eq_true_of_le hc⟩)) x1 bs1 dr
  refine ⟨E', F', tmps', df', cs', w', b1, b1f, b2, u1 ▸ b3, by rw [b4, u1], Arr.of (.one ?_) b5⟩
  rw [st_draw]
  simp only [Region.schedule, hmix, Bool.true_or, if_true]
  rfl
end Go.VM
