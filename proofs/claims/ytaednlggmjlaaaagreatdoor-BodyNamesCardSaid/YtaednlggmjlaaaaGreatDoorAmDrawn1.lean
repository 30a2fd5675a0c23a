/- The abstract machine: regions whose order is drawn: their items. -/
import Derived.Test.YtaednlggmjlaaaaGreatDoorAmLeave
import Derived.Orders
set_option linter.unusedVariables false
set_option linter.unusedSimpArgs false
namespace Go.AM
noncomputable section
open Go.RowKit
variable {P : Program}

theorem ancOf_bit {acc : List Nat} {j : Nat} : ∀ {es : List Edge}, (ancOf acc es).testBit j = true → ∃ e ∈ es, Region.binds .any e = true ∧ (j = e.on ∨ (acc.getD e.on 0).testBit j = true)
  | [], h => by simp [ancOf] at h
  | e :: es, h => by
    simp only [ancOf] at h
    split at h
    · rename_i hb
      rw [Nat.testBit_or, Nat.testBit_or, Bool.or_eq_true, Bool.or_eq_true] at h
      rcases h with (h | h) | h
      · rw [Nat.testBit_two_pow] at h
        exact ⟨e, List.mem_cons_self .., hb, .inl (of_decide_eq_true h).symm⟩
      · exact ⟨e, List.mem_cons_self .., hb, .inr h⟩
      · obtain ⟨e', h1, h2, h3⟩ := ancOf_bit h
        exact ⟨e', List.mem_cons_of_mem _ h1, h2, h3⟩
    · obtain ⟨e', h1, h2, h3⟩ := ancOf_bit h
      exact ⟨e', List.mem_cons_of_mem _ h1, h2, h3⟩

theorem ancs_spec : ∀ (os : List Oper) (acc : List Nat), ∃ A, ancs os acc = acc ++ A ∧ A.length = os.length ∧ ∀ (k : Nat) (o : Oper), os[k]? = some o → A[k]? = some (ancOf (acc ++ A.take k) o.after.toList)
  | [], acc => ⟨[], by simp [ancs], rfl, by simp⟩
  | o :: os, acc => by
    obtain ⟨A, h1, h2, h3⟩ := ancs_spec os (acc ++ [ancOf acc o.after.toList])
    refine ⟨ancOf acc o.after.toList :: A, by simp [ancs, h1], by simp [h2], fun k o' hk => ?_⟩
    cases k with
    | zero => simp at hk; subst hk; simp
    | succ k => simpa using h3 k o' (by simpa using hk)

theorem mkIts_spec (hs : List Nat) : ∀ (os : List Oper) (as : List Nat) (i : Nat), os.length = as.length →
    ∀ (k : Nat) (o : Oper) (an : Nat), os[k]? = some o → as[k]? = some an → (mkIts P hs os as i)[k]? = some ⟨i + k, o, cls P o, an, countBits an hs⟩
  | [], _, _, _, k, o, an, h, _ => by simp at h
  | o :: os, [], _, hl, _, _, _, _, _ => by simp at hl
  | o :: os, a :: as, i, hl, 0, o', an, h, g => by simp at h g; subst h; subst g; simp [mkIts]
  | o :: os, a :: as, i, hl, k + 1, o', an, h, g => by
    have := mkIts_spec hs os as (i + 1) (by simpa using hl) k o' an (by simpa using h) (by simpa using g)
    simp only [mkIts, List.getElem?_cons_succ, this]
    congr 2; omega

theorem mkIts_mem (hs : List Nat) : ∀ (os : List Oper) (as : List Nat) (i : Nat) (it : It), it ∈ mkIts P hs os as i → ∃ k, os[k]? = some it.o ∧ as[k]? = some it.anc ∧ it.i = i + k ∧ it.c = cls P it.o
  | [], _, _, it, h => by simp [mkIts] at h
  | o :: os, [], _, it, h => by simp [mkIts] at h
  | o :: os, a :: as, i, it, h => by
    simp only [mkIts, List.mem_cons] at h
    rcases h with rfl | h
    · exact ⟨0, rfl, rfl, rfl, rfl⟩
    · obtain ⟨k, h1, h2, h3, h4⟩ := mkIts_mem hs os as (i + 1) it h
      exact ⟨k + 1, by simpa using h1, by simpa using h2, by omega, h4⟩

/-- what holds of a region's items. -/
structure ItsOk (P : Program) (ops : Array Oper) (its : List It) : Prop where
  op : ∀ it ∈ its, ops[it.i]? = some it.o
  cl : ∀ it ∈ its, it.c = cls P it.o
  all : ∀ i, i < ops.size → ∃ it ∈ its, it.i = i
  uniq : ∀ a ∈ its, ∀ b ∈ its, a.i = b.i → a = b ∨ (a.o = b.o ∧ a.anc = b.anc ∧ a.c = b.c)
  anc : ∀ it ∈ its, ∀ j, it.anc.testBit j = true → ∃ e ∈ it.o.after.toList, Region.binds .any e = true ∧ (j = e.on ∨ ∃ it2 ∈ its, it2.i = e.on ∧ it2.i < it.i ∧ it2.anc.testBit j = true)

theorem items_ok (ops : Array Oper) : ItsOk P ops (items P ops.toList) := by
  obtain ⟨A, h1, h2, h3⟩ := ancs_spec ops.toList []
  have hA : ancs ops.toList [] = A := by simpa using h1
  have hl : ops.toList.length = A.length := h2.symm
  unfold items
  rw [hA]
  generalize heavyBits P ops.toList 0 = hs
  have mem := mkIts_mem (P := P) hs ops.toList A 0
  refine ⟨fun it hit => ?_, fun it hit => ?_, fun i hi => ?_, fun a ha b hb hab => ?_, fun it hit j hj => ?_⟩
  · obtain ⟨k, g1, g2, g3, g4⟩ := mem it hit
    rw [g3, Nat.zero_add]; simpa using g1
  · obtain ⟨k, g1, g2, g3, g4⟩ := mem it hit; exact g4
  · obtain ⟨o, ho⟩ : ∃ o, ops.toList[i]? = some o := ⟨ops.toList[i]'(by simpa using hi), by simp [hi]⟩
    have := mkIts_spec (P := P) hs ops.toList A 0 hl i o _ ho (h3 i o ho)
    exact ⟨_, List.mem_of_getElem? this, by simp⟩
  · obtain ⟨k, g1, g2, g3, g4⟩ := mem a ha
    obtain ⟨k', g1', g2', g3', g4'⟩ := mem b hb
    have : k = k' := by omega
    subst this
    rw [g1] at g1'; rw [g2] at g2'
    have e1 := Option.some.inj g1'
    have e2 := Option.some.inj g2'
    exact .inr ⟨e1, e2, by rw [g4, g4', e1]⟩
  · obtain ⟨k, g1, g2, g3, g4⟩ := mem it hit
    have := h3 k it.o g1
    rw [g2] at this
    have e := Option.some.inj this
    rw [e] at hj
    obtain ⟨ed, q1, q2, q3⟩ := ancOf_bit hj
    refine ⟨ed, q1, q2, ?_⟩
    rcases q3 with q3 | q3
    · exact .inl q3
    · refine .inr ?_
      rw [List.nil_append, List.getD_eq_getElem?_getD, List.getElem?_take] at q3
      split at q3
      · rename_i hlt
        cases hA2 : A[ed.on]? with
        | none => rw [hA2] at q3; simp at q3
        | some an =>
          rw [hA2] at q3
          have hlt2 : ed.on < A.length := (List.getElem?_eq_some_iff.1 hA2).1
          obtain ⟨o2, ho2⟩ : ∃ o, ops.toList[ed.on]? = some o := ⟨ops.toList[ed.on]'(by omega), by simp⟩
          have := mkIts_spec (P := P) hs ops.toList A 0 hl ed.on o2 an ho2 hA2
          exact ⟨_, List.mem_of_getElem? this, by simp, by simp; omega, by simpa using q3⟩
      · simp at q3

/-- all that an item hangs on is done, if what its edges name is, and what is done is closed. -/
theorem anc_in {ops : Array Oper} {its : List It} (ok : ItsOk P ops its) {I : Nat → Bool} (dc : ∀ it ∈ its, I it.i = true → ∀ e ∈ it.o.after.toList, Region.binds .any e = true → I e.on = true) :
    ∀ (n : Nat) (it : It), it.i < n → it ∈ its → (∀ e ∈ it.o.after.toList, Region.binds .any e = true → I e.on = true) → ∀ j, it.anc.testBit j = true → I j = true := by
  intro n
  induction n with
  | zero => intro it h; omega
  | succ n ih =>
    intro it hn hit he j hj
    obtain ⟨e, h1, h2, h3⟩ := ok.anc it hit j hj
    rcases h3 with rfl | ⟨it2, q1, q2, q3, q4⟩
    · exact he e h1 h2
    · exact ih it2 (by omega) q1 (dc it2 q1 (by rw [q2]; exact he e h1 h2)) j q4

/-! ### the slots, item by item -/
def putE (tm : T V) (e : Ev) : T V :=
  match e.it.o.dst with
  | some d => tm.set fu d e.v
  | none => tm

def tmOf (I : Nat → Bool) (tm0 : T V) : List Ev → T V
  | [] => tm0
  | e :: es => if I e.it.i = true then putE (tmOf I tm0 es) e else tmOf I tm0 es

theorem putE_get {tm : T V} {e : Ev} {t : Nat} (h : ∀ d, e.it.o.dst = some d → d < lim) : (putE tm e).get t = if e.it.o.dst = some t then some e.v else tm.get t := by
  unfold putE
  cases hd : e.it.o.dst with
  | none => simp
  | some d =>
    simp only [T.get_set _ _ _ _ _ (fu_lim (h d hd)), Option.some.injEq]
    by_cases hdt : d = t
    · rw [if_pos hdt.symm, if_pos hdt]
    · rw [if_neg (fun e => hdt e.symm), if_neg hdt]

theorem tmOf_skip {I : Nat → Bool} {tm0 : T V} {t : Nat} {pre : List Ev} : ∀ (post : List Ev), (∀ e ∈ post, ∀ d, e.it.o.dst = some d → d < lim) → (∀ e ∈ post, I e.it.i = true → e.it.o.dst ≠ some t) →
    (tmOf I tm0 (post ++ pre)).get t = (tmOf I tm0 pre).get t
  | [], _, _ => rfl
  | e :: post, hl, h => by
    have ih := tmOf_skip (I := I) (tm0 := tm0) (t := t) (pre := pre) post (fun e he => hl e (List.mem_cons_of_mem _ he)) (fun e he => h e (List.mem_cons_of_mem _ he))
    simp only [List.cons_append, tmOf]
    split
    · rename_i hi
      rw [putE_get (hl e (List.mem_cons_self ..)), if_neg (h e (List.mem_cons_self ..) hi)]; exact ih
    · exact ih

theorem tmOf_same {I J : Nat → Bool} {tm0 : T V} {t : Nat} : ∀ (es : List Ev), (∀ e ∈ es, ∀ d, e.it.o.dst = some d → d < lim) → (∀ e ∈ es, e.it.o.dst = some t → I e.it.i = J e.it.i) → (tmOf I tm0 es).get t = (tmOf J tm0 es).get t
  | [], _, _ => rfl
  | e :: es, hl, h => by
    have ih := tmOf_same (I := I) (J := J) (tm0 := tm0) (t := t) es (fun e he => hl e (List.mem_cons_of_mem _ he)) (fun e he => h e (List.mem_cons_of_mem _ he))
    have hl0 := hl e (List.mem_cons_self ..)
    simp only [tmOf]
    by_cases hd : e.it.o.dst = some t
    · rw [h e (List.mem_cons_self ..) hd]
      split
      · rw [putE_get hl0, putE_get hl0, if_pos hd, if_pos hd]
      · exact ih
    · have g : ∀ (b : Bool) (tm : T V), (if b = true then putE tm e else tm).get t = tm.get t := by
        intro b tm; split
        · rw [putE_get hl0, if_neg hd]
        · rfl
      rw [g, g]; exact ih

theorem sub_get {tm : T V} {t : Nat} {v : V} : ∀ {ts : List Nat}, (sub tm ts).get t = some v → t ∈ ts ∧ tm.get t = some v
  | [], h => by simp [sub_n, T.get_leaf] at h
  | s :: ts, h => by
    simp only [sub_c] at h
    split at h
    · rename_i u hu hlt
      have hlt' : s < lim := by rwa [Nat.blt_eq] at hlt
      rw [T.get_set _ _ _ _ _ (fu_lim hlt')] at h
      split at h
      · rename_i e; cases h; subst e; exact ⟨List.mem_cons_self .., hu⟩
      · obtain ⟨a, b⟩ := sub_get h; exact ⟨List.mem_cons_of_mem _ a, b⟩
    · obtain ⟨a, b⟩ := sub_get h; exact ⟨List.mem_cons_of_mem _ a, b⟩
end
end Go.AM
