/- laid for this seat: VtScan6 -/
import Derived.Test.YtonlemmcdecibaaVtScan5
/- The cache's file: what a beginning of bytes holds is a beginning of what they hold. -/
set_option maxRecDepth 100000
set_option linter.unusedVariables false
set_option linter.unusedSimpArgs false
namespace Go.VM
open Go.RowKit

/-! ### a beginning of bytes -/
theorem takeF_cut {b : List Nat} {c a n : Nat} {w : Bool} (h : (takeF (b.take c) a w n).2.2 = true) : takeF b a w n = takeF (b.take c) a w n := by
  unfold takeF at h ⊢
  split at h
  · rename_i h1
    obtain ⟨h1, h2⟩ := h1
    rw [List.length_take] at h2
    rw [if_pos ⟨h1, by omega⟩, if_pos ⟨h1, by rw [List.length_take]; exact h2⟩, List.drop_take, List.take_take, show min n (c - a) = n by omega]
  · cases h

theorem numF_cut {b : List Nat} {c a : Nat} {w : Bool} (h : (numF (b.take c) a w).2.2 = true) : numF b a w = numF (b.take c) a w := by
  unfold numF at h ⊢
  simp only [Bool.and_eq_true] at h
  rw [takeF_cut h.1]

theorem takeF_w {b : List Nat} {a n : Nat} {w : Bool} (h : (takeF b a w n).2.2 = true) : w = true := by
  unfold takeF at h
  split at h
  · rename_i h1; exact h1.1
  · cases h

theorem textF_cut {b : List Nat} {c a : Nat} {w : Bool} (h : (textF (b.take c) a w).2.2 = true) : textF b a w = textF (b.take c) a w := by
  unfold textF at h ⊢
  have h1 := takeF_w h
  rw [numF_cut h1, takeF_cut h]

theorem numF_w {b : List Nat} {a : Nat} {w : Bool} (h : (numF b a w).2.2 = true) : w = true := by
  unfold numF at h
  simp only [Bool.and_eq_true] at h
  exact takeF_w h.1

theorem textF_w {b : List Nat} {a : Nat} {w : Bool} (h : (textF b a w).2.2 = true) : w = true := numF_w (takeF_w h)

theorem recF_cut {b : List Nat} {c a kind : Nat} {x : Rec} (h : recF (b.take c) a kind = some (x, true)) : recF b a kind = some (x, true) := by
  unfold recF at h ⊢
  split at h
  · rename_i h1
    simp only [Option.some.injEq, Prod.mk.injEq] at h
    obtain ⟨h2, h3⟩ := h
    have h4 := textF_w h3
    rw [if_pos h1]
    simp only
    rw [textF_cut h4, textF_cut h3]
    simp only [Option.some.injEq, Prod.mk.injEq]
    exact ⟨h2, h3⟩
  · rename_i h1
    rw [if_neg h1]
    split at h
    · rename_i h2
      simp only [Option.some.injEq, Prod.mk.injEq] at h
      obtain ⟨h3, h4⟩ := h
      rw [if_pos h2]
      simp only
      rw [numF_cut h4]
      simp only [Option.some.injEq, Prod.mk.injEq]
      exact ⟨h3, h4⟩
    · cases h

/-! ### what only grows -/
structure Le (s t : Sc) : Prop where
  good : s.good ≤ t.good
  l : ∀ (i : Nat) (e : Ent), s.l[i]? = some e → ∃ e', t.l[i]? = some e' ∧ e.k = e'.k ∧ e.v = e'.v ∧ (e.live = true → e'.live = true) ∧ e.last ≤ e'.last

theorem Le.refl (s : Sc) : Le s s := ⟨Nat.le_refl _, fun i e h => ⟨e, h, rfl, rfl, id, Nat.le_refl _⟩⟩
theorem Le.trans {s t u : Sc} (h : Le s t) (k : Le t u) : Le s u := ⟨Nat.le_trans h.good k.good, fun i e he => by
  obtain ⟨e1, a1, a2, a3, a4, a5⟩ := h.l i e he
  obtain ⟨e2, b1, b2, b3, b4, b5⟩ := k.l i e1 a1
  exact ⟨e2, b1, a2.trans b2, a3.trans b3, fun h => b4 (a4 h), Nat.le_trans a5 b5⟩⟩

theorem Le.len {s t : Sc} (h : Le s t) : s.l.length ≤ t.l.length := by
  rcases Nat.lt_or_ge t.l.length s.l.length with g | g
  · obtain ⟨e', a1, _⟩ := h.l t.l.length s.l[t.l.length] (List.getElem?_eq_getElem g)
    simp at a1
  · exact g

structure Inv (s : Sc) (a : Nat) : Prop where
  good : s.good ≤ a
  last : ∀ (i : Nat) (e : Ent), s.l[i]? = some e → e.last ≤ s.last

theorem addF_mono {s s' : Sc} {x : Rec} {a : Nat} (iv : Inv s a) (hx : a < x.e) (h : addF s x = some s') : Le s s' ∧ Inv s' x.e := by
  unfold addF at h
  split at h
  · cases h
    refine ⟨⟨by have := iv.good; simp only; omega, fun i e he => ⟨e, ?_, rfl, rfl, id, Nat.le_refl _⟩⟩, Nat.le_refl _, fun i e he => ?_⟩
    · have hlt := (List.getElem?_eq_some_iff.1 he).1
      rw [List.getElem?_append_left hlt]; exact he
    · simp only at he ⊢
      rw [List.getElem?_append] at he
      split at he
      · exact iv.last i e he
      · have := List.mem_of_getElem? he
        simp at this; subst this; exact Nat.zero_le _
  · split at h
    · cases h
    · rename_i e1 he1
      split at h
      · cases h
        refine ⟨⟨by have := iv.good; simp only; omega, fun i e he => ?_⟩, Nat.le_refl _, fun i e he => ?_⟩
        · by_cases hi : i = x.n
          · subst hi
            have e0 : e = e1 := Option.some.inj (he.symm.trans he1)
            have hlt := (List.getElem?_eq_some_iff.1 he).1
            refine ⟨{ e1 with live := true, last := s.last + 1 }, ?_, by rw [e0], by rw [e0], fun _ => rfl, ?_⟩
            · rw [List.getElem?_set]; simp [hlt]
            · have := iv.last _ e he; simp only; omega
          · refine ⟨e, ?_, rfl, rfl, id, Nat.le_refl _⟩
            rw [List.getElem?_set_ne (fun q => hi q.symm)]; exact he
        · simp only at he ⊢
          by_cases hi : i = x.n
          · subst hi
            rw [List.getElem?_set] at he
            split at he
            · split at he
              · cases he; exact Nat.le_refl _
              · cases he
            · rename_i q; exact absurd rfl q
          · rw [List.getElem?_set_ne (fun q => hi q.symm)] at he
            have := iv.last i e he; omega
      · cases h

theorem scanL_mono (b : List Nat) (h8 : ∀ x ∈ b, x < 256) : ∀ (m a : Nat) (s : Sc), Inv s a → a ≤ b.length → Le s (scanL b m a s).1 ∧ (scanL b m a s).1.good ≤ b.length := by
  intro m
  induction m with
  | zero => intro a s iv ha; exact ⟨Le.refl _, Nat.le_trans iv.good ha⟩
  | succ m ih =>
    intro a s iv ha
    have triv : Le s s ∧ s.good ≤ b.length := ⟨Le.refl _, Nat.le_trans iv.good ha⟩
    unfold scanL
    split
    · exact triv
    · rename_i kind hk
      split
      · exact triv
      · exact triv
      · rename_i x hrec
        obtain ⟨r1, r2, _⟩ := recF_ok hk h8 hrec
        split
        · exact triv
        · rename_i s' hadd
          obtain ⟨q1, q2⟩ := addF_mono iv r1 hadd
          obtain ⟨q3, q4⟩ := ih x.e s' q2 r2
          exact ⟨q1.trans q3, q4⟩

theorem scan_cut (b : List Nat) (c : Nat) (h8 : ∀ x ∈ b, x < 256) : ∀ (m m2 a : Nat) (s : Sc), b.length - a < m2 → Inv s a → a ≤ (b.take c).length → Le (scanL (b.take c) m a s).1 (scanL b m2 a s).1 := by
  have h8' : ∀ x ∈ b.take c, x < 256 := fun x hx => h8 x (List.mem_of_mem_take hx)
  intro m
  induction m with
  | zero => intro m2 a s _ iv ha; exact (scanL_mono b h8 m2 a s iv (by rw [List.length_take] at ha; omega)).1
  | succ m ih =>
    intro m2 a s hm iv ha
    have ha2 : a ≤ b.length := by rw [List.length_take] at ha; omega
    have base := (scanL_mono b h8 m2 a s iv ha2).1
    cases hk : (b.take c)[a]? with
    | none => simp only [scanL, hk]; exact base
    | some kind =>
      have hk2 : b[a]? = some kind := by
        rw [List.getElem?_take] at hk
        split at hk
        · exact hk
        · cases hk
      cases hrec : recF (b.take c) a kind with
      | none => simp only [scanL, hk, hrec]; exact base
      | some xw =>
        obtain ⟨x, w⟩ := xw
        cases w with
        | false => simp only [scanL, hk, hrec]; exact base
        | true =>
          have hrec2 := recF_cut hrec
          obtain ⟨r1, r2, _⟩ := recF_ok hk h8' hrec
          have r3 := (recF_ok hk2 h8 hrec2).2.1
          cases m2 with
          | zero => omega
          | succ m2 =>
            cases hadd : addF s x with
            | none => simp only [scanL, hk, hrec, hk2, hrec2, hadd]; exact Le.refl _
            | some s' =>
              simp only [scanL, hk, hrec, hk2, hrec2, hadd]
              exact ih m2 x.e s' (by omega) (addF_mono iv r1 hadd).2 r2

theorem inv0 : Inv sc0 0 := ⟨Nat.le_refl _, fun i e he => by simp [sc0] at he⟩

theorem scanR_good (b : List Nat) (h8 : ∀ x ∈ b, x < 256) : (scanR b).1.good ≤ b.length := (scanL_mono b h8 _ 0 sc0 inv0 (Nat.zero_le _)).2
theorem scanR_cut (b : List Nat) (c : Nat) (h8 : ∀ x ∈ b, x < 256) : Le (scanR (b.take c)).1 (scanR b).1 := scan_cut b c h8 _ _ 0 sc0 (by omega) inv0 (Nat.zero_le _)
end Go.VM
