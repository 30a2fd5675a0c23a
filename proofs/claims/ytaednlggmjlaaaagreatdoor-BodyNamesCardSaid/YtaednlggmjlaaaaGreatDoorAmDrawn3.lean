/- The abstract machine: regions whose order is drawn: items in the model's own order. -/
import Derived.Test.YtaednlggmjlaaaaGreatDoorAmDrawn2
set_option linter.unusedVariables false
set_option linter.unusedSimpArgs false
namespace Go.AM
noncomputable section
open Go.RowKit

theorem Beq_eq : True := trivial

mutual
theorem V.beq_eq : ∀ (a b : V), V.beq a b = true → a = b
  | .bool a, b, h => by cases b <;> simp [V.beq] at h; rw [h]
  | .int k a, b, h => by cases b <;> simp [V.beq] at h; rw [h.1, h.2]
  | .str a, b, h => by cases b <;> simp [V.beq] at h; rw [(seq_iff _ _).1 h]
  | .nilp, b, h => by cases b <;> simp [V.beq] at h; rfl
  | .ptr x y, b, h => by cases b <;> simp [V.beq] at h; rw [h.1, h.2]
  | .nils, b, h => by cases b <;> simp [V.beq] at h; rfl
  | .sl x y z c, b, h => by cases b <;> simp [V.beq] at h; obtain ⟨⟨⟨rfl, rfl⟩, rfl⟩, rfl⟩ := h; rfl
  | .nilm, b, h => by cases b <;> simp [V.beq] at h; rfl
  | .map x, b, h => by cases b <;> simp [V.beq] at h; rw [h]
  | .fn f a c, b, h => by
    cases b <;> simp [V.beq] at h
    obtain ⟨⟨rfl, h1⟩, h2⟩ := h
    rw [V.beqs_eq _ _ h1, V.beqs_eq _ _ h2]
  | .nilf, b, h => by cases b <;> simp [V.beq] at h; rfl
  | .iface t v, b, h => by cases b <;> simp [V.beq] at h; rw [h.1, V.beq_eq _ _ h.2]
  | .nili, b, h => by cases b <;> simp [V.beq] at h; rfl
  | .agg a, b, h => by cases b <;> simp [V.beq] at h; rw [V.beqs_eq _ _ h]
  | .tup a, b, h => by cases b <;> simp [V.beq] at h; rw [V.beqs_eq _ _ h]
theorem V.beqs_eq : ∀ (a b : List V), V.beqs a b = true → a = b
  | [], [], _ => rfl
  | a :: x, b :: y, h => by
    simp only [V.beqs, Bool.and_eq_true] at h
    rw [V.beq_eq _ _ h.1, V.beqs_eq _ _ h.2]
  | [], _ :: _, h => by simp [V.beqs] at h
  | _ :: _, [], h => by simp [V.beqs] at h
end

section
variable {C : Cfg} {fr : Fr} {ops : Array Oper} {its : List It} {tm0 : T V} {d : DS} {I : Nat → Bool} {E : Env} {w0 w : World} {b : Frame} {tmps : Array Value} {df : List Deferred} {cs : List Frame}

theorem pend_done (ok : ItsOk C.P ops its) (sl : slotOk ops its = true) (dc : Closed its I) (v : INV C fr ops its tm0 d I E w0 w b tmps df cs) (lt : Lights C d I) {e : Ev} (he : e ∈ d.evs) (hI : I e.it.i = false)
    (hc : e.it.c < 3) (ha : ∀ j, e.it.anc.testBit j = true → I j = true) (k : List Item) (rest : List Nat) :
    ∃ E' w' v', E.le E' ∧ (∀ x, x < d.s.h.nxt → E' x ≠ E x → x = e.b ∧ e.k = 2) ∧ (∀ x, d.s.h.nxt ≤ x → E' x = none) ∧ INV C fr ops its tm0 d (ins I e.it.i) E' w0 w' b (putA tmps e.it.o.dst v') df cs ∧
      step C.P (lone (mkF b tmps (.inRegion ops (e.it.i :: rest) :: k) df) cs w) = .next (lone (mkF b (putA tmps e.it.o.dst v') (.inRegion ops rest :: k) df) cs w') := by
  have hop := ok.op e.it (v.good.mem e he)
  have tre := pend_TR ok sl dc v he hI ha
  obtain ⟨post, pre, heq⟩ := List.append_of_mem he
  obtain ⟨s1, s2, s3, s4, s5, s6⟩ := v.good.split post e pre heq
  have hk := v.kc e he hc
  -- what the new state is, for any new places
  have fin : ∀ (E' : Env) (w' : World) (v' : Value), E.le E' → (∀ x, x < d.s.h.nxt → E' x ≠ E x → x = e.b ∧ e.k = 2) → MR E' d.s.h w0 w' → AR E' e.v v' → INV C fr ops its tm0 d (ins I e.it.i) E' w0 w' b (putA tmps e.it.o.dst v') df cs := by
    intro E' w' v' hle hx m hv
    have hins : ∀ i, ins I e.it.i i = false → I i = false ∧ i ≠ e.it.i := by
      intro i hi; unfold ins at hi; split at hi
      · cases hi
      · rename_i q; exact ⟨hi, q⟩
    refine ⟨v.good, ⟨m, ins_TR ok sl dc v hle he hI hv, v.st.dr.mono fun _ _ => ADR.mono hle, v.st.uk.mono hle, v.st.fr.mono hle, v.st.gl.mono hle⟩, fun i hi => ?_, fun e' h' hh => ?_, v.kc, v.pur, fun e' h' hh hk2 => ?_⟩
    · unfold ins at hi
      split at hi
      · rename_i q; exact ⟨e, he, q.symm⟩
      · exact v.sub i hi
    · unfold ins; split
      · rfl
      · exact v.heavy e' h' hh
    · obtain ⟨g1, g2⟩ := hins _ hh
      obtain ⟨ob, a1, a2, a3, a4⟩ := v.alloc e' h' g1 hk2
      refine ⟨ob, ?_, a2, a3, a4⟩
      by_cases q : E' e'.b = E e'.b
      · rw [q]; exact a1
      · exfalso
        obtain ⟨q1, q2⟩ := hx _ (v.good.bb e' h' hk2) q
        rw [heq] at h'
        rcases List.mem_append.1 h' with h' | h'
        · obtain ⟨p1, p2, hp⟩ := List.append_of_mem h'
          have := (v.good.split p1 e' (p2 ++ e :: pre) (by rw [heq, hp]; simp)).2.2.2.1 e (by simp) q2
          omega
        · cases h' with
          | head => exact g2 rfl
          | tail _ h' => have := s4 e' h' hk2; omega
  have notdef : b.roundOf = none ∨ ∀ c, e.it.o.op ≠ .defer c := by
    refine .inr fun c hcc => ?_
    have := ok.cl e.it (v.good.mem e he)
    rw [this] at hc
    simp [cls, hcc] at hc
  have fresh : ∀ x, d.s.h.nxt ≤ x → E x = none := fun x hx => (v.st.mr.fresh x hx).1
  by_cases k0 : e.k = 0
  · obtain ⟨hw, hv⟩ := s5 k0
    have hw' := wanted_sound hw tre
    refine ⟨E, w, undef, Env.le_refl E, fun x _ hx => absurd rfl hx, fresh, fin E w undef (Env.le_refl E) (fun x _ hx => absurd rfl hx) v.st.mr (by rw [hv]; exact .tup [] #[] .nil), st_op_skip hop hw'⟩
  · have hw' := wanted_sound (s6 k0) tre
    by_cases k1 : e.k = 1
    · obtain ⟨v', h1, h2⟩ := light_sound (P := C.P) v.st.mr v.st.gl tre (lt e he hI k1)
      exact ⟨E, w, v', Env.le_refl E, fun x _ hx => absurd rfl hx, fresh, fin E w v' (Env.le_refl E) (fun x _ hx => absurd rfl hx) v.st.mr h2, st_val hop hw' notdef h1⟩
    · have k2 : e.k = 2 := by omega
      obtain ⟨ob, a1, a2, a3, a4⟩ := v.alloc e he hI k2
      obtain ⟨v', cob, n, p, h1, h2, h3, h4⟩ := a4 E w tmps v.st.gl tre
      have hlt := v.good.bb e he k2
      have hle := upd_le (p := p) a1
      have m2 := place_sound (v.st.mr.drawn n) (p := p) hlt a1 a2 cob h2 (fun o ho => by
        have : d.s.h.get e.b = some o := ho
        rw [a3] at this; cases this; exact h3.mono hle)
      have hx : ∀ x, x < d.s.h.nxt → upd E e.b p x ≠ E x → x = e.b ∧ e.k = 2 := by
        intro x _ hx
        unfold upd at hx
        split at hx
        · rename_i q; exact ⟨q, k2⟩
        · exact absurd rfl hx
      refine ⟨upd E e.b p, _, v', hle, hx, fun x hx => ?_, fin _ _ v' hle hx m2 (h4 _ (by unfold upd; rw [if_pos rfl])), st_val hop hw' notdef h1⟩
      unfold upd; rw [if_neg (by omega)]; exact fresh x hx
end
end
end Go.AM
