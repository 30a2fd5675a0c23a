/- The abstract machine: regions whose order is drawn: the whole of them. -/
import Derived.Test.YtkeanagdncbjjaaGreatDoorAmDrawn4
set_option linter.unusedVariables false
set_option linter.unusedSimpArgs false
namespace Go.AM
open Go.RowKit

def after (C : Cfg) (rec : Req → M Res) (fr : Fr) (ops : Array Oper) (its : List It) : List It → Nat → DS → M Res
  | [], _, d => full ops.size d
  | it :: hs, k, d => match waits its it d with
    | false => .bad fr.fid "waits"
    | true => match heavy1 C rec fr ops its it d with
      | .bad f p => .bad f p
      | .ok (.stop ch s) => .ok (.x (.panic ch) s)
      | .ok (.go d) => phases C rec fr ops its (full ops.size) hs (k + 1) it.anc d

theorem phases_after {C : Cfg} {rec : Req → M Res} {fr : Fr} {ops : Array Oper} {its : List It} {hs : List It} {k anc : Nat} {d : DS} {r : Res} (h : phases C rec fr ops its (full ops.size) hs k anc d = .ok r) :
    ∃ d1, phase C fr ops k its d = some d1 ∧ pendOk C d1.s.h anc d1.evs = true ∧ after C rec fr ops its hs k d1 = .ok r := by
  unfold phases at h
  split at h
  · cases h
  · rename_i d1 h1
    split at h
    · cases h
    · rename_i h2
      refine ⟨d1, h1, h2, ?_⟩
      cases hs with
      | nil => exact h
      | cons it hs => exact h

theorem chain_head {x : It} {xs : List It} (h : chainOk (x :: xs) = true) : (∀ y ∈ xs, y.anc.testBit x.i = true) ∧ chainOk xs = true := by
  simp only [chainOk, Bool.and_eq_true, List.all_eq_true] at h
  exact h

theorem two_bit {n i : Nat} (h : i < n) : (2 ^ n - 1).testBit i = true := by rw [Nat.testBit_two_pow_sub_one]; exact decide_eq_true h

def lst (l : Array Bool) : Nat → Bool := fun j => l.getD j false

theorem lst_set {l : Array Bool} {i : Nat} (h : i < l.size) : lst (l.setIfInBounds i true) = ins (lst l) i := by
  funext j
  unfold lst ins
  by_cases q : j = i
  · subst q
    rw [if_pos rfl]
    simp [Array.getD_eq_getD_getElem?, h]
  · rw [if_neg q, getD_set_ne false (fun z => q z.symm)]

theorem getD_tf {l : Array Bool} {i : Nat} (h : i < l.size) : l.getD i true = l.getD i false := by
  simp [Array.getD_eq_getD_getElem?, h]

theorem after_heavy1 {C : Cfg} {rec : Req → M Res} {fr : Fr} {ops : Array Oper} {its : List It} {hd : It} {hs : List It} {k : Nat} {d : DS} {r : Res} (h : after C rec fr ops its (hd :: hs) k d = .ok r) :
    turnOk d hd = true ∧ waits its hd d = true ∧ ((∃ ch s, heavy1 C rec fr ops its hd d = .ok (.stop ch s) ∧ r = .x (.panic ch) s) ∨ ∃ d', heavy1 C rec fr ops its hd d = .ok (.go d') ∧ phases C rec fr ops its (full ops.size) hs (k + 1) hd.anc d' = .ok r) := by
  simp only [after] at h
  split at h
  · cases h
  · rename_i hw
    have ht : ∀ r, heavy1 C rec fr ops its hd d = .ok r → turnOk d hd = true := by
      intro r hr
      unfold heavy1 at hr
      simp only at hr
      split at hr
      · assumption
      · assumption
      · cases hr
    split at h
    · cases h
    · rename_i ch s hh
      cases h
      exact ⟨ht _ hh, hw, .inl ⟨ch, s, hh, rfl⟩⟩
    · rename_i d' hh
      exact ⟨ht _ hh, hw, .inr ⟨d', hh, h⟩⟩

theorem finish_sound {C : Cfg} {fr : Fr} {ops : Array Oper} {its : List It} {tm0 : T V} (ok : ItsOk C.P ops its) {rec : Req → M Res} (k : List Item) {E0 : Env} {h0 : H} {w0 : World} {b : Frame} {x : X} {s' : AM.S}
    (listed : Array Bool) (hs : List It) (kk : Nat) (d : DS) (E : Env) (w : World) (tmps : Array Value) (df : List Deferred) (cs : List Frame)
    (v : INV C fr ops its tm0 d (lst listed) E w0 w b tmps df cs) (hhs : ∀ it ∈ hs, it ∈ its ∧ 3 ≤ it.c) (ex : Ext E0 h0 E d.s.h) (h : after C rec fr ops its hs kk d = .ok (.x x s')) (hf : ∀ i, i < ops.size → lst listed i = true) :
    ∃ E' tmps' df' cs' w', Ext E0 h0 E' s'.h ∧ StR C.gl E' fr s' b tmps' df' cs' w0 w' ∧ CS d.s.u cs cs' ∧ s'.u.isSome = d.s.u.isSome ∧
      Arr C.P E' x (lone (mkF b tmps (.inRegion ops [] :: k) df) cs w) b k tmps' df' cs' w' := by
  have hin : ∀ it ∈ its, lst listed it.i = true := fun it hit => hf _ (Array.getElem?_eq_some_iff.1 (ok.op it hit)).1
  cases hs with
  | cons hd tl =>
    have := notin_I v (after_heavy1 h).1
    rw [hin hd (hhs hd (List.mem_cons_self ..)).1] at this; cases this
  | nil =>
    simp only [after, full] at h
    split at h
    · cases h
      refine ⟨E, tmps, df, cs, w, ex, ⟨v.st.mr, ?_, v.st.dr, v.st.uk, v.st.fr, v.st.gl⟩, CS.refl v.st.uk, rfl, .one st_end⟩
      refine TR.congr (fun t => ?_) v.st.tr
      show d.s.tm.get t = (tmOf (lst listed) tm0 d.evs).get t
      rw [v.good.tm]
      exact tmOf_same d.evs (fun e' h' q hq => Nat.lt_of_lt_of_le (v.good.dst e' h' q hq) v.st.fr.nt) fun e' h' _ => (hin _ (v.good.mem e' h')).symm
    · cases h

section
variable {C : Cfg} {fr : Fr} {ops : Array Oper} {its : List It} {tm0 : T V}

theorem tail_sound (pr : PrOk C) {rec : Req → M Res} (S : Sound C rec) (ok : ItsOk C.P ops its) (sl : slotOk ops its = true) (bk : backOk its = true) (k : List Item) {E0 : Env} {h0 : H} {w0 : World} {b : Frame} {x : X} {s' : AM.S} :
    ∀ (fuel t : Nat) (listed : Array Bool) (hs : List It) (kk : Nat) (d : DS) (E : Env) (w : World) (tmps : Array Value) (df : List Deferred) (cs : List Frame),
      listed.size = ops.size → listed.toList.count false ≤ fuel → INV C fr ops its tm0 d (lst listed) E w0 w b tmps df cs → Lights C d (lst listed) → Closed its (lst listed) →
      chainOk hs = true → (∀ it ∈ hs, it ∈ its ∧ 3 ≤ it.c) → (∀ it ∈ its, 3 ≤ it.c → it ∈ hs ∨ ∃ e ∈ d.evs, e.it.i = it.i) →
      Ext E0 h0 E d.s.h → Based h0 d → after C rec fr ops its hs kk d = .ok (.x x s') →
      ∃ E' tmps' df' cs' w', Ext E0 h0 E' s'.h ∧ StR C.gl E' fr s' b tmps' df' cs' w0 w' ∧ CS d.s.u cs cs' ∧ s'.u.isSome = d.s.u.isSome ∧
        Arr C.P E' x (lone (mkF b tmps (.inRegion ops (Region.linearise.go .any ops fuel t listed []) :: k) df) cs w) b k tmps' df' cs' w' := by
  intro fuel
  induction fuel with
  | zero =>
    intro t listed hs kk d E w tmps df cs hsz hcnt v lt dc ch hhs hall ex bs h
    exact (finish_sound ok k listed hs kk d E w tmps df cs v hhs ex h (fun i hi => by
      have h0 : listed.toList.count false = 0 := by omega
      rw [List.count_eq_zero] at h0
      unfold lst
      have hi' : i < listed.size := by omega
      simp only [Array.getD_eq_getD_getElem?, Array.getElem?_eq_getElem hi', Option.getD_some]
      cases hq : listed[i] with
      | true => rfl
      | false => exact absurd (hq ▸ Array.getElem_mem_toList hi') h0))
  | succ fuel ih =>
    intro t listed hs kk d E w tmps df cs hsz hcnt v lt dc ch hhs hall ex bs h
    simp only [Region.linearise.go]
    change ∃ E' tmps' df' cs' w', _ ∧ _ ∧ _ ∧ _ ∧ Arr C.P E' x (lone (mkF b tmps (.inRegion ops (match (Region.ready .any ops listed)[t % (Region.ready .any ops listed).length]? with
      | some i => Region.linearise.go .any ops fuel (t / (Region.ready .any ops listed).length) (listed.setIfInBounds i true) [i]
      | none => [].reverse) :: k) df) cs w) b k tmps' df' cs' w'
    cases hi : (Region.ready .any ops listed)[t % (Region.ready .any ops listed).length]? with
    | none =>
      have hnil : Region.ready .any ops listed = [] := by
        cases hr : Region.ready .any ops listed with
        | nil => rfl
        | cons x xs =>
          rw [hr] at hi
          have hlt : t % (x :: xs).length < (x :: xs).length := Nat.mod_lt _ (by simp)
          simp at hi
          simp at hlt
          omega
      have hfull : ∀ (n i : Nat), i < n → i < ops.size → lst listed i = true := by
        intro n
        induction n with
        | zero => intro i hn; omega
        | succ n ihn =>
          intro i hn his
          cases hq : lst listed i with
          | true => rfl
          | false =>
            exfalso
            obtain ⟨it, hit, hii⟩ := ok.all i his
            have : i ∈ Region.ready .any ops listed := by
              rw [mem_ready]
              refine ⟨by rw [getD_tf (by omega)]; exact hq, it.o, by rw [← hii]; exact ok.op it hit, fun e he hb => ?_⟩
              have hlt : e.on < it.i := by
                have := List.all_eq_true.1 (List.all_eq_true.1 bk it hit) e (by simpa using he)
                rw [hb] at this
                simpa [Nat.blt_eq] using this
              exact ihn e.on (by omega) (by omega)
            rw [hnil] at this; cases this
      exact finish_sound ok k listed hs kk d E w tmps df cs v hhs ex h (fun i hi => hfull (i + 1) i (Nat.lt_succ_self _) hi)
    | some i =>
      simp only []
      rw [linearise_go_acc, List.reverse_singleton, List.singleton_append]
      generalize t / (Region.ready .any ops listed).length = t'
      obtain ⟨r1, o, r2, r3⟩ := mem_ready.1 (List.mem_of_getElem? hi)
      have his : i < ops.size := (Array.getElem?_eq_some_iff.1 r2).1
      have hil : i < listed.size := by omega
      have hIi : lst listed i = false := by rw [getD_tf hil] at r1; exact r1
      have hset := lst_set hil
      have hsz' : (listed.setIfInBounds i true).size = ops.size := by rw [Array.size_setIfInBounds]; exact hsz
      have hcnt' : (listed.setIfInBounds i true).toList.count false ≤ fuel := by
        rw [Array.toList_setIfInBounds, List.count_set (by simpa using hil)]
        have hq : listed.toList[i]'(by simpa using hil) = false := by
          unfold lst at hIi
          simpa [Array.getD_eq_getD_getElem?, hil] using hIi
        rw [hq]
        simp only [BEq.rfl, if_true]
        have : ((true : Bool) == false) = false := rfl
        rw [this]
        simp only [Bool.false_eq_true, if_false]
        omega
      have edges : ∀ it ∈ its, it.i = i → ∀ e ∈ it.o.after.toList, Region.binds .any e = true → lst listed e.on = true := by
        intro it hit hii e he hb
        have := ok.op it hit
        rw [hii, r2] at this
        have e1 := Option.some.inj this
        exact r3 e (by rw [e1]; simpa using he) hb
      have ancs : ∀ it ∈ its, it.i = i → ∀ j, it.anc.testBit j = true → lst listed j = true := fun it hit hii => anc_in ok dc (it.i + 1) it (Nat.lt_succ_self _) hit (edges it hit hii)
      have dc' : Closed its (lst (listed.setIfInBounds i true)) := by
        rw [hset]
        intro it hit hI e he hb
        unfold ins at hI ⊢
        split
        · rfl
        · split at hI
          · rename_i q; exact edges it hit q e he hb
          · exact dc it hit hI e he hb
      -- no heavy item is done that is to come
      have noh : ∀ hd tl, hs = hd :: tl → lst listed hd.i = false := by
        intro hd tl heq
        rw [heq] at h
        exact notin_I v (after_heavy1 h).1
      obtain ⟨it, hit, hii⟩ := ok.all i his
      by_cases hc : it.c < 3
      · -- it was run before
        have hm : d.mask.testBit i = true := by
          cases hs with
          | nil =>
            simp only [after, full] at h
            split at h
            · rename_i hq
              rw [Nat.eq_of_beq_eq_true hq]; exact two_bit his
            · cases h
          | cons hd tl =>
            have hw := (after_heavy1 h).2.1
            have := List.all_eq_true.1 hw it hit
            simp only [Bool.or_eq_true] at this
            rcases this with (q | q) | q
            · exfalso; have := Nat.le_of_ble_eq_true q; omega
            · rw [← hii]; exact q
            · exfalso
              have := ancs it hit hii _ q
              rw [noh hd tl rfl] at this; cases this
        obtain ⟨e, he, hei⟩ := (v.good.mask i).1 hm
        have hec : e.it.c < 3 := by
          rcases ok.uniq e.it (v.good.mem e he) it hit (by rw [hei, hii]) with q | ⟨_, _, q⟩
          · rw [q]; exact hc
          · rw [q]; exact hc
        have hst := pend_done (w := w) ok sl dc v lt he (by rw [hei]; exact hIi) hec (ancs e.it (v.good.mem e he) hei) k (Region.linearise.go .any ops fuel t' (listed.setIfInBounds i true) [])
        obtain ⟨E1, w1, v1, a1, a2, a3, a4, a5⟩ := hst
        rw [hei] at a4 a5
        rw [← hset] at a4
        have ex1 : Ext E0 h0 E1 d.s.h := by
          refine ⟨ex.le.trans a1, fun y hy => ?_, ex.nxt, ex.ghost⟩
          rw [← ex.old y hy]
          by_cases q : E1 y = E y
          · exact q
          · obtain ⟨q1, q2⟩ := a2 y (Nat.lt_of_lt_of_le hy ex.nxt) q
            have := bs e he q2
            omega
        obtain ⟨E', tmps', df', cs', w', b1, b2, b3, b4, b5⟩ := ih t' (listed.setIfInBounds i true) hs kk d E1 w1 _ df cs hsz' hcnt' a4
          (by
            rw [hset]
            intro e' he' hI' hk'
            unfold ins at hI'
            split at hI'
            · cases hI'
            · exact lt e' he' hI' hk') dc' ch hhs hall ex1 bs h
        exact ⟨E', tmps', df', cs', w', b1, b2, b3, b4, Arr.of (.one a5) b5⟩
      · -- a heavy one: the next
        have hc3 : 3 ≤ it.c := by omega
        rcases hall it hit hc3 with hin | ⟨e, he, hei⟩
        · cases hs with
          | nil => cases hin
          | cons hd tl =>
            obtain ⟨c1, c2⟩ := chain_head ch
            have hhd : it = hd := by
              cases hin with
              | head => rfl
              | tail _ hin =>
                exfalso
                have := ancs it hit hii _ (c1 it hin)
                rw [noh hd tl rfl] at this; cases this
            subst hhd
            obtain ⟨ht, hw, hcase⟩ := after_heavy1 h
            rcases hcase with ⟨pch, s2, hh, hr⟩ | ⟨d', hh, hph⟩
            · cases hr
              have hst := heavy_step (r := .stop pch s') (w := w) pr S ok sl dc v ex bs hit hc3 (ancs it hit hii) hh k (Region.linearise.go .any ops fuel t' (listed.setIfInBounds i true) [])
              rw [hii] at hst
              obtain ⟨E', df', cs', w', todo, ch', a1, a2, a3, a4, a5, a6⟩ := hst
              exact ⟨E', tmps, df', cs', w', a1, a2, a3, a4, todo, ch', a5, a6⟩
            · have hst := heavy_step (r := .go d') (w := w) pr S ok sl dc v ex bs hit hc3 (ancs it hit hii) hh k (Region.linearise.go .any ops fuel t' (listed.setIfInBounds i true) [])
              rw [hii] at hst
              obtain ⟨E1, df1, cs1, w1, v1, a1, a2, a3, a4, a5, ⟨e1, ae1, ae2⟩, a6⟩ := hst
              obtain ⟨d1, p1, p2, p3⟩ := phases_after hph
              obtain ⟨v2, x2, bs2, u2⟩ := phase_inv its d' d1 (fun _ h => h) p1 a2 a1 a3
              rw [← hset] at v2
              have hsub : ∀ j, lst (listed.setIfInBounds i true) j = true → ∃ e' ∈ d1.evs, e'.it.i = j := v2.sub
              have hin2 : ∀ j, lst listed j = true → lst (listed.setIfInBounds i true) j = true := by
                intro j hj; rw [hset]; unfold ins; split
                · rfl
                · exact hj
              have hini : lst (listed.setIfInBounds i true) i = true := by rw [hset]; unfold ins; rw [if_pos rfl]
              obtain ⟨E', tmps', df', cs', w', b1, b2, b3, b4, b5⟩ := ih t' (listed.setIfInBounds i true) tl (kk + 1) d1 E1 w1 _ df1 cs1 hsz' hcnt' v2
                (by
                  intro e' he' hI' hk'
                  refine pendOk_spec p2 v2.pur e' he' hk' ?_
                  cases hq : it.anc.testBit e'.it.i with
                  | false => rfl
                  | true =>
                    have := hin2 _ (ancs it hit hii _ hq)
                    rw [hI'] at this; cases this)
                dc' c2 (fun y hy => hhs y (List.mem_cons_of_mem _ hy))
                (by
                  intro y hy hyc
                  rcases hall y hy hyc with q | ⟨e, he, hei⟩
                  · cases q with
                    | head => exact .inr (by rw [hii]; exact hsub i hini)
                    | tail _ q => exact .inl q
                  · refine .inr (hsub _ (hin2 _ ?_))
                    rw [← hei]
                    refine v.heavy e he ?_
                    rcases ok.uniq e.it (v.good.mem e he) y hy hei with q | ⟨_, _, q⟩
                    · rw [q]; exact hyc
                    · rw [q]; exact hyc)
                x2 bs2 p3
              exact ⟨E', tmps', df', cs', w', b1, b2, CS.trans a4 (u2 ▸ b3) (by rw [u2] at *; exact a5), b4.trans (by rw [u2]; exact a5), Arr.of a6 b5⟩
        · have := v.heavy e he (by
            rcases ok.uniq e.it (v.good.mem e he) it hit hei with q | ⟨_, _, q⟩
            · rw [q]; exact hc3
            · rw [q]; exact hc3)
          rw [hei, hii, hIi] at this; cases this
end

theorem drawn_sound {C : Cfg} (pr : PrOk C) {rec : Req → M Res} (S : Sound C rec) {fr : Fr} {id : Nat} {ops : Array Oper} {s : AM.S} {x : X} {s' : AM.S} (h : drawnOps C rec fr ops s = .ok (.x x s')) : SItem C.P C.gl fr (.code (.region id ops true)) s x s' := by
  unfold drawnOps at h
  simp only at h
  split at h
  · cases h
  · rename_i hq
    simp only [Bool.and_eq_true] at hq
    obtain ⟨sl, bk⟩ := hq
    split at h
    · rename_i ch
      have ok := items_ok (P := C.P) ops
      generalize items C.P ops.toList = its at *
      intro E w0 w b tmps df cs k st
      obtain ⟨d1, p1, p2, p3⟩ := phases_after h
      have hI : lst (Array.replicate ops.size false) = fun _ => false := by
        funext j
        unfold lst
        simp [Array.getD_eq_getD_getElem?, Array.getElem?_replicate]
        split <;> rfl
      have m0 := st.mr.drawn (w.drawn + 1)
      have v0 : INV C fr ops its s.tm ⟨s, [], 0⟩ (lst (Array.replicate ops.size false)) E w0 { w with drawn := w.drawn + 1 } b tmps df cs := by
        rw [hI]
        exact ⟨Good.nil, ⟨m0, st.tr, st.dr, st.uk, st.fr, st.gl⟩, (fun i hi => by cases hi), (fun e he => by cases he), (fun e he => by cases he), (fun e he => by cases he), (fun e he => by cases he)⟩
      obtain ⟨v1, x1, bs1, u1⟩ := phase_inv (E0 := E) (h0 := s.h) its _ d1 (fun _ h => h) p1 v0 (Ext.refl _ _) (fun e he => by cases he)
      obtain ⟨E', tmps', df', cs', w', b1, b2, b3, b4, b5⟩ := tail_sound pr S ok sl bk k ops.size (w.tape w.drawn (.order b.fn id)) (Array.replicate ops.size false) _ 0 d1 E { w with drawn := w.drawn + 1 } tmps df cs
        (by simp) (by simp) v1
        (by
          intro e' he' hI' hk'
          exact pendOk_spec p2 v1.pur e' he' hk' (Nat.zero_testBit _))
        (by rw [hI]; intro it hit hz; cases hz) ch
        (fun it hit => by
          obtain ⟨q1, q2⟩ := List.mem_filter.1 hit
          exact ⟨q1, Nat.le_of_ble_eq_true q2⟩)
        (fun it hit hc => .inl (List.mem_filter.2 ⟨hit, Nat.ble_eq_true_of_le hc⟩)) x1 bs1 p3
      refine ⟨E', tmps', df', cs', w', b1, b2, u1 ▸ b3, by rw [b4, u1], Arr.of (.one ?_) b5⟩
      rw [st_draw]
      simp only [Region.schedule, pr.mix, Bool.true_or, if_true]
      rfl
    · cases h

end Go.AM
