/- laid for this seat: VtStab2 -/
import Derived.Test.YtonlemmcdecibaaVtStab
/- The library's stable sort sorts: merging, the blocks, all. -/
set_option maxRecDepth 100000
set_option linter.unusedVariables false
set_option linter.unusedSimpArgs false
namespace Go.VM
theorem head_ahead {K : Nat → Int} {x z : Nat} {P1 P2 : List Nat} (h : Srt K (P1 ++ x :: P2)) (hz : Rk K x z) : ∀ p ∈ P1 ++ [x], Rk K p z := by
 intro p hp
 rcases List.mem_append.1 hp with hp | hp
 ·exact ((List.pairwise_append.1 h).2.2 p hp x (by simp)).trans hz
 ·simp at hp; subst hp; exact hz
theorem tail_behind {K : Nat → Int} {x z : Nat} {P1 P2 : List Nat} (h : Srt K (P1 ++ x :: P2)) (hz : Rk K z x) : ∀ p ∈ x :: P2, Rk K z p := by
 intro p hp
 rcases List.mem_cons.1 hp with rfl | hp
 ·exact hz
 ·exact hz.trans ((List.pairwise_cons.1 (List.pairwise_append.1 h).2.1).1 p hp)
theorem take_ahead {K : Nat → Int} {z c : Nat} {P : List Nat} (h : Srt K P) (hc : c = 0 ∨ ∃ x, P[c - 1]? = some x ∧ Rk K x z) : ∀ p ∈ P.take c, Rk K p z := by
 rcases hc with rfl | ⟨x, hx, hz⟩
 ·intro p hp; simp at hp
 ·rcases Nat.eq_zero_or_pos c with h0 | h0
  ·subst h0; intro p hp; simp at hp
  ·have hlt := (List.getElem?_eq_some_iff.1 hx).1
   have e : P.take c = P.take (c - 1) ++ [x] := by
    have := List.take_add_one (l := P) (i := c - 1)
    rw [show c - 1 + 1 = c by omega, hx] at this
    simpa using this
   have e2 : P = P.take (c - 1) ++ x :: P.drop c := by
    conv => lhs; rw [← List.take_append_drop c P, e]
    simp
   rw [e]
   rw [e2] at h
   exact head_ahead h hz
theorem drop_behind {K : Nat → Int} {z c : Nat} {P : List Nat} (h : Srt K P) (hc : P.length ≤ c ∨ ∃ x, P[c]? = some x ∧ Rk K z x) : ∀ p ∈ P.drop c, Rk K z p := by
 rcases hc with hc | ⟨x, hx, hz⟩
 ·intro p hp; rw [List.drop_eq_nil_iff.2 hc] at hp; cases hp
 ·have hlt := (List.getElem?_eq_some_iff.1 hx).1
  have e : P.drop c = x :: P.drop (c + 1) := by
   rw [List.drop_eq_getElem_cons hlt]
   congr 1
   rw [List.getElem?_eq_getElem hlt] at hx; exact Option.some.inj hx
  have e2 : P = P.take c ++ x :: P.drop (c + 1) := by
   conv => lhs; rw [← List.take_append_drop c P, e]
  rw [e]
  rw [e2] at h
  exact tail_behind h hz
theorem get_mid {A P B : List Nat} {i a : Nat} (ha : A.length = a) (h1 : a ≤ i) (h2 : i < a + P.length) : (A ++ (P ++ B))[i]? = P[i - a]? := by
 rw [List.getElem?_append_right (by omega), List.getElem?_append_left (by omega), ha]
theorem srt_take {K : Nat → Int} {P : List Nat} (h : Srt K P) (c : Nat) : Srt K (P.take c) := h.sublist (List.take_sublist _ _)
theorem srt_drop {K : Nat → Int} {P : List Nat} (h : Srt K P) (c : Nat) : Srt K (P.drop c) := h.sublist (List.drop_sublist _ _)
theorem symF_ok (K : Nat → Int) : ∀ (f : Nat) (A P Q B : List Nat) (a m b : Nat), A.length = a → a + P.length = m → m + Q.length = b → P.length + Q.length ≤ f → 0 < P.length → 0 < Q.length → Srt K P → Srt K Q → (∀ x ∈ P, ∀ y ∈ Q, x < y) →
  ∃ M, symF K f a m b (A ++ (P ++ (Q ++ B))) = A ++ (M ++ B) ∧ M.Perm (P ++ Q) ∧ Srt K M := by
 intro f
 induction f with
 | zero => intro A P Q B a m b _ _ _ h h1; omega
 | succ f ih =>
  intro A P Q B a m b ha hm hb hf hp hq sp sq hlt
  obtain ⟨xs, hxs⟩ : ∃ xs, xs = A ++ (P ++ (Q ++ B)) := ⟨_, rfl⟩
  have hlen : xs.length = b + B.length := by rw [hxs]; simp; omega
  have gP : ∀ i, a ≤ i → i < m → xs[i]? = P[i - a]? := fun i h1 h2 => by rw [hxs]; exact get_mid ha h1 (by omega)
  have gQ : ∀ i, m ≤ i → i < b → xs[i]? = Q[i - m]? := fun i h1 h2 => by
   rw [hxs, ← List.append_assoc]; exact get_mid (by simp; omega) h1 (by omega)
  rw [← hxs]
  by_cases q1 : m - a = 1
  ·obtain ⟨y, rfl⟩ : ∃ y, P = [y] := by
    match P, hp, hm with
    | [y], _, _ => exact ⟨y, rfl⟩
    | _ :: _ :: _, _, hm => simp at hm; omega
   have hm : a + 1 = m := by simpa using hm
   have hy : xs[a]? = some y := by rw [gP a (Nat.le_refl _) (by omega)]; simp
   have rng := bsF_rng K y xs (b - m + 1) m b (by omega)
   have ok := bsF_ok K y xs (b - m + 1) m b (by omega) (by omega) (by omega)
   rw [show symF K (f + 1) a m b xs = upF (bsF K y xs (b - m + 1) m b - 1 - a) a xs from by simp only [symF, if_pos q1, hy]]
   generalize bsF K y xs (b - m + 1) m b = i at *
   have hyq : ∀ x ∈ Q, y < x := fun x hx => hlt y (by simp) x hx
   have h1 : ∀ x ∈ Q.take (i - m), Rk K x y := take_ahead sq (by
    rcases ok.1 with e | ⟨x, hx, hk⟩
    ·exact .inl (by omega)
    ·rcases Nat.lt_or_ge m i with g | g
     ·refine .inr ⟨x, ?_, .inl hk⟩
      rw [gQ (i - 1) (by omega) (by omega)] at hx
      rw [← hx]; congr 1; omega
     ·exact .inl (by omega))
   have h2 : ∀ x ∈ Q.drop (i - m), Rk K y x := drop_behind sq (by
    rcases ok.2 with e | ⟨x, hx, hk⟩
    ·exact .inl (by omega)
    ·rcases Nat.lt_or_ge i b with g | g
     ·rw [gQ i (by omega) g] at hx
      have := hyq x (List.mem_of_getElem? hx)
      exact .inr ⟨x, hx, by unfold Rk; omega⟩
     ·exact .inl (by omega))
   refine ⟨Q.take (i - m) ++ y :: Q.drop (i - m), ?_, ?_, ?_⟩
   ·have hl : (Q.take (i - m)).length = i - 1 - a := by rw [List.length_take]; omega
    have := up_ok (Q.take (i - m)) A (Q.drop (i - m) ++ B) y a ha
    rw [hl] at this
    rw [hxs]
    have e : A ++ ([y] ++ (Q ++ B)) = A ++ y :: (Q.take (i - m) ++ (Q.drop (i - m) ++ B)) := by
     rw [← List.append_assoc (Q.take (i - m)), List.take_append_drop]; rfl
    rw [e, this]; simp
   ·have : (Q.take (i - m) ++ y :: Q.drop (i - m)).Perm (y :: (Q.take (i - m) ++ Q.drop (i - m))) := List.perm_middle
    rw [List.take_append_drop] at this
    exact this
   ·refine srt_app (srt_take sq _) (List.pairwise_cons.2 ⟨h2, srt_drop sq _⟩) (fun x hx z hz => ?_)
    rcases List.mem_cons.1 hz with rfl | hz
    ·exact h1 x hx
    ·exact (h1 x hx).trans (h2 z hz)
  by_cases q2 : b - m = 1
  ·obtain ⟨y, rfl⟩ : ∃ y, Q = [y] := by
    match Q, hq, hb with
    | [y], _, _ => exact ⟨y, rfl⟩
    | _ :: _ :: _, _, hb => simp at hb; omega
   have hb : m + 1 = b := by simpa using hb
   have hy : xs[m]? = some y := by rw [gQ m (Nat.le_refl _) (by omega)]; simp
   have rng := bsG_rng K y xs (m - a + 1) a m (by omega)
   have ok := bsG_ok K y xs (m - a + 1) a m (by omega) (by omega) (by omega)
   rw [show symF K (f + 1) a m b xs = dnF (m - bsG K y xs (m - a + 1) a m) m xs from by simp only [symF, if_neg q1, if_pos q2, hy]]
   generalize bsG K y xs (m - a + 1) a m = i at *
   have hyq : ∀ x ∈ P, x < y := fun x hx => hlt x hx y (by simp)
   have h1 : ∀ x ∈ P.take (i - a), Rk K x y := take_ahead sp (by
    rcases ok.1 with e | ⟨x, hx, hk⟩
    ·exact .inl (by omega)
    ·rcases Nat.lt_or_ge a i with g | g
     ·rw [gP (i - 1) (by omega) (by omega)] at hx
      have hx' : P[i - a - 1]? = some x := by rw [← hx]; congr 1; omega
      have := hyq x (List.mem_of_getElem? hx)
      exact .inr ⟨x, hx', by unfold Rk; omega⟩
     ·exact .inl (by omega))
   have h2 : ∀ x ∈ P.drop (i - a), Rk K y x := drop_behind sp (by
    rcases ok.2 with e | ⟨x, hx, hk⟩
    ·exact .inl (by omega)
    ·rcases Nat.lt_or_ge i m with g | g
     ·rw [gP i (by omega) g] at hx
      exact .inr ⟨x, hx, .inl hk⟩
     ·exact .inl (by omega))
   refine ⟨P.take (i - a) ++ y :: P.drop (i - a), ?_, ?_, ?_⟩
   ·have hl : (P.drop (i - a)).length = m - i := by rw [List.length_drop]; omega
    have := dn_ok (m - i) (P.drop (i - a)) hl (A ++ P.take (i - a)) B y m (by simp; omega)
    rw [hxs]
    have e : A ++ (P ++ ([y] ++ B)) = (A ++ P.take (i - a)) ++ (P.drop (i - a) ++ y :: B) := by
     rw [List.append_assoc, ← List.append_assoc (P.take (i - a)), List.take_append_drop]; rfl
    rw [e, this]; simp
   ·have : (P.take (i - a) ++ y :: P.drop (i - a)).Perm (y :: (P.take (i - a) ++ P.drop (i - a))) := List.perm_middle
    rw [List.take_append_drop] at this
    exact this.trans (List.perm_append_comm (l₁ := [y]) (l₂ := P))
   ·refine srt_app (srt_take sp _) (List.pairwise_cons.2 ⟨h2, srt_drop sp _⟩) (fun x hx z hz => ?_)
    rcases List.mem_cons.1 hz with rfl | hz
    ·exact h1 x hx
    ·exact (h1 x hx).trans (h2 z hz)
  obtain ⟨mid, hmid⟩ : ∃ mid, mid = (a + b) / 2 := ⟨_, rfl⟩
  have rng := cutF_rng K a m b xs (by omega) (by omega)
  rw [← hmid] at rng
  have hcut : (∀ x y, a < cutF K a m b xs → mid + m - cutF K a m b xs < b → xs[cutF K a m b xs - 1]? = some x → xs[mid + m - cutF K a m b xs]? = some y → ¬ K x < K y) ∧
    (∀ x y, cutF K a m b xs < m → m < mid + m - cutF K a m b xs → xs[cutF K a m b xs]? = some x → xs[mid + m - cutF K a m b xs - 1]? = some y → K x < K y) := by
   by_cases hc : m > mid
   ·have e : cutF K a m b xs = bsH K (mid + m - 1) xs (b - a + 1) (mid + m - b) mid := by unfold cutF; simp only [← hmid, if_pos hc]
    have ok := bsH_ok K (mid + m - 1) xs (b - a + 1) (mid + m - b) mid (by omega) (by omega) (by omega) (by omega) (by omega)
    rw [← e] at ok
    generalize cutF K a m b xs = s at *
    refine ⟨fun x y h1 h2 hx hy => ?_, fun x y h1 h2 hx hy => ?_⟩
    ·rcases ok.1 with g | ⟨x', y', g1, g2, g3⟩
     ·omega
     ·rw [hx] at g1; cases g1
      rw [show mid + m - 1 - (s - 1) = mid + m - s by omega, hy] at g2; cases g2
      exact g3
    ·rcases ok.2 with g | ⟨x', y', g1, g2, g3⟩
     ·omega
     ·rw [hx] at g1; cases g1
      rw [show mid + m - 1 - s = mid + m - s - 1 by omega, hy] at g2; cases g2
      exact g3
   ·have e : cutF K a m b xs = bsH K (mid + m - 1) xs (b - a + 1) a m := by unfold cutF; simp only [← hmid, if_neg hc]
    have ok := bsH_ok K (mid + m - 1) xs (b - a + 1) a m (by omega) (by omega) (by omega) (by omega) (by omega)
    rw [← e] at ok
    generalize cutF K a m b xs = s at *
    refine ⟨fun x y h1 h2 hx hy => ?_, fun x y h1 h2 hx hy => ?_⟩
    ·rcases ok.1 with g | ⟨x', y', g1, g2, g3⟩
     ·omega
     ·rw [hx] at g1; cases g1
      rw [show mid + m - 1 - (s - 1) = mid + m - s by omega, hy] at g2; cases g2
      exact g3
    ·rcases ok.2 with g | ⟨x', y', g1, g2, g3⟩
     ·omega
     ·rw [hx] at g1; cases g1
      rw [show mid + m - 1 - s = mid + m - s - 1 by omega, hy] at g2; cases g2
      exact g3
  have hst := symF_step K f a m b xs mid (cutF K a m b xs) (mid + m - cutF K a m b xs) _ _ q1 q2 hmid rfl rfl rfl rfl
  rw [hst]
  generalize hs : cutF K a m b xs = s at *
  obtain ⟨e, he⟩ : ∃ e, e = mid + m - s := ⟨_, rfl⟩
  rw [← he] at hcut ⊢
  obtain ⟨P1, P2, rfl, hP1⟩ : ∃ P1 P2, P = P1 ++ P2 ∧ P1.length = s - a := ⟨P.take (s - a), P.drop (s - a), (List.take_append_drop _ _).symm, by rw [List.length_take]; omega⟩
  obtain ⟨Q1, Q2, rfl, hQ1⟩ : ∃ Q1 Q2, Q = Q1 ++ Q2 ∧ Q1.length = e - m := ⟨Q.take (e - m), Q.drop (e - m), (List.take_append_drop _ _).symm, by rw [List.length_take]; omega⟩
  have sP1 := (List.pairwise_append.1 sp).1
  have sP2 := (List.pairwise_append.1 sp).2.1
  have sP := (List.pairwise_append.1 sp).2.2
  have sQ1 := (List.pairwise_append.1 sq).1
  have sQ2 := (List.pairwise_append.1 sq).2.1
  have sQ := (List.pairwise_append.1 sq).2.2
  simp only [List.length_append] at hm hb hf hp hq
  have c1 : ∀ x ∈ P1, ∀ y ∈ Q2, Rk K x y := by
   intro x hx y hy
   have hp1 : 0 < P1.length := List.length_pos_of_mem hx
   have hq2 : 0 < Q2.length := List.length_pos_of_mem hy
   obtain ⟨x0, hx0⟩ : ∃ x0, xs[s - 1]? = some x0 := ⟨_, List.getElem?_eq_getElem (by omega)⟩
   obtain ⟨y0, hy0⟩ : ∃ y0, xs[e]? = some y0 := ⟨_, List.getElem?_eq_getElem (by omega)⟩
   have hk := hcut.1 x0 y0 (by omega) (by omega) hx0 hy0
   rw [gP (s - 1) (by omega) (by omega)] at hx0
   rw [gQ e (by omega) (by omega)] at hy0
   have hx1 : (P1 ++ P2)[(s - a) - 1]? = some x0 := by rw [← hx0]; congr 1; omega
   have hr : Rk K x0 y0 := by
    have := hlt x0 (List.mem_of_getElem? hx0) y0 (List.mem_of_getElem? hy0)
    unfold Rk; omega
   have t1 := take_ahead sp (.inr ⟨x0, hx1, hr⟩ : s - a = 0 ∨ _) x (by rw [List.take_append_of_le_length (by omega), List.take_of_length_le (by omega)]; exact hx)
   exact drop_behind sq (.inr ⟨y0, hy0, t1⟩) y (by rw [List.drop_append, List.drop_eq_nil_iff.2 (by omega), show e - m - Q1.length = 0 by omega]; simpa using hy)
  have c2 : ∀ x ∈ P2, ∀ y ∈ Q1, Rk K y x := by
   intro x hx y hy
   have hp2 : 0 < P2.length := List.length_pos_of_mem hx
   have hq1 : 0 < Q1.length := List.length_pos_of_mem hy
   obtain ⟨x0, hx0⟩ : ∃ x0, xs[s]? = some x0 := ⟨_, List.getElem?_eq_getElem (by omega)⟩
   obtain ⟨y0, hy0⟩ : ∃ y0, xs[e - 1]? = some y0 := ⟨_, List.getElem?_eq_getElem (by omega)⟩
   have hk := hcut.2 x0 y0 (by omega) (by omega) hx0 hy0
   rw [gP s (by omega) (by omega)] at hx0
   rw [gQ (e - 1) (by omega) (by omega)] at hy0
   have hy1 : (Q1 ++ Q2)[(e - m) - 1]? = some y0 := by rw [← hy0]; congr 1; omega
   have t1 := take_ahead sq (.inr ⟨y0, hy1, (.inl hk : Rk K y0 x0)⟩ : e - m = 0 ∨ _) y (by rw [List.take_append_of_le_length (by omega), List.take_of_length_le (by omega)]; exact hy)
   exact drop_behind sp (.inr ⟨x0, hx0, t1⟩) x (by rw [List.drop_append, List.drop_eq_nil_iff.2 (by omega), show s - a - P1.length = 0 by omega]; simpa using hx)
  obtain ⟨x1, hx1⟩ : ∃ x1, x1 = (if s < m ∧ m < e then rotF s m e xs else xs) := ⟨_, rfl⟩
  rw [← hx1]
  have hrot : x1 = A ++ (P1 ++ (Q1 ++ (P2 ++ (Q2 ++ B)))) := by
   rw [hx1]
   split
   ·have := rotF_ok (A ++ P1) P2 Q1 (Q2 ++ B) s m e (by simp; omega) (by omega) (by omega) (by omega) (by omega)
    rw [hxs]
    have e0 : A ++ ((P1 ++ P2) ++ ((Q1 ++ Q2) ++ B)) = (A ++ P1) ++ (P2 ++ (Q1 ++ (Q2 ++ B))) := by simp
    rw [e0, this]; simp
   ·rename_i hn
    have : P2 = [] ∨ Q1 = [] := by
     by_cases h0 : s < m
     ·exact .inr (List.eq_nil_of_length_eq_zero (by omega))
     ·exact .inl (List.eq_nil_of_length_eq_zero (by omega))
    rw [hxs]
    rcases this with rfl | rfl <;> simp
  obtain ⟨x2, hx2⟩ : ∃ x2, x2 = (if a < s ∧ s < mid then symF K f a s mid x1 else x1) := ⟨_, rfl⟩
  rw [← hx2]
  obtain ⟨M1, hm1, pm1, sm1⟩ : ∃ M1, x2 = A ++ (M1 ++ (P2 ++ (Q2 ++ B))) ∧ M1.Perm (P1 ++ Q1) ∧ Srt K M1 := by
   rw [hx2, hrot]
   split
   ·exact ih A P1 Q1 (P2 ++ (Q2 ++ B)) a s mid ha (by omega) (by omega) (by omega) (by omega) (by omega) sP1 sQ1 (fun x hx y hy => hlt x (by simp [hx]) y (by simp [hy]))
   ·rename_i hn
    refine ⟨P1 ++ Q1, by simp, List.Perm.refl _, ?_⟩
    have : P1 = [] ∨ Q1 = [] := by
     by_cases h0 : a < s
     ·exact .inr (List.eq_nil_of_length_eq_zero (by omega))
     ·exact .inl (List.eq_nil_of_length_eq_zero (by omega))
    rcases this with rfl | rfl
    ·simpa using sQ1
    ·simpa using sP1
  have hM1 : M1.length = mid - a := by rw [pm1.length_eq, List.length_append]; omega
  obtain ⟨M2, hm2, pm2, sm2⟩ : ∃ M2, (if mid < e ∧ e < b then symF K f mid e b x2 else x2) = (A ++ M1) ++ (M2 ++ B) ∧ M2.Perm (P2 ++ Q2) ∧ Srt K M2 := by
   have e0 : x2 = (A ++ M1) ++ (P2 ++ (Q2 ++ B)) := by rw [hm1]; simp
   rw [e0]
   split
   ·exact ih (A ++ M1) P2 Q2 B mid e b (by simp; omega) (by omega) (by omega) (by omega) (by omega) (by omega) sP2 sQ2 (fun x hx y hy => hlt x (by simp [hx]) y (by simp [hy]))
   ·rename_i hn
    refine ⟨P2 ++ Q2, by simp, List.Perm.refl _, ?_⟩
    have : P2 = [] ∨ Q2 = [] := by
     by_cases h0 : mid < e
     ·exact .inr (List.eq_nil_of_length_eq_zero (by omega))
     ·exact .inl (List.eq_nil_of_length_eq_zero (by omega))
    rcases this with rfl | rfl
    ·simpa using sQ2
    ·simpa using sP2
  rw [hm2]
  refine ⟨M1 ++ M2, by simp, ?_, ?_⟩
  ·refine (pm1.append pm2).trans ?_
   have : ((P1 ++ Q1) ++ (P2 ++ Q2)).Perm ((P1 ++ P2) ++ (Q1 ++ Q2)) := by
    rw [List.append_assoc, List.append_assoc]
    refine List.Perm.append_left P1 ?_
    rw [← List.append_assoc, ← List.append_assoc]
    exact List.Perm.append_right Q2 List.perm_append_comm
   exact this
  ·refine srt_app sm1 sm2 (fun x hx y hy => ?_)
   have hx := pm1.mem_iff.1 hx
   have hy := pm2.mem_iff.1 hy
   rcases List.mem_append.1 hx with hx | hx <;> rcases List.mem_append.1 hy with hy | hy
   ·exact sP x hx y hy
   ·exact c1 x hx y hy
   ·exact c2 y hy x hx
   ·exact sQ x hx y hy
end Go.VM
