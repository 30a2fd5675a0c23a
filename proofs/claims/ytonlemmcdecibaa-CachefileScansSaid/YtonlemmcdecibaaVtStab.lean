/- laid for this seat: VtStab -/
import Derived.Test.YtonlemmcdecibaaVtStable
/- The library's stable sort sorts: in plain words, no program in sight. -/
set_option maxRecDepth 100000
set_option linter.unusedVariables false
set_option linter.unusedSimpArgs false
namespace Go.VM
def Rk (K : Nat → Int) (x y : Nat) : Prop := K x > K y ∨ (K x = K y ∧ x < y)
theorem Rk.trans {K : Nat → Int} {x y z : Nat} (h : Rk K x y) (g : Rk K y z) : Rk K x z := by
 unfold Rk at *; omega
theorem Rk.asymm {K : Nat → Int} {x y : Nat} (h : Rk K x y) (g : Rk K y x) : False := by
 unfold Rk at *; omega
abbrev Srt (K : Nat → Int) (l : List Nat) : Prop := l.Pairwise (Rk K)
theorem srt_unique {K : Nat → Int} : ∀ {l1 l2 : List Nat}, Srt K l1 → Srt K l2 → l1.Perm l2 → l1 = l2
 | [], l2, _, _, p => (List.Perm.nil_eq p)
 | x :: l1, [], _, _, p => absurd p.length_eq (by simp)
 | x :: l1, y :: l2, h1, h2, p => by
  have hxy : x = y := by
   have hx : x ∈ y :: l2 := p.mem_iff.1 (by simp)
   have hy : y ∈ x :: l1 := p.mem_iff.2 (by simp)
   rcases List.mem_cons.1 hx with e | hx
   ·exact e
   ·rcases List.mem_cons.1 hy with e | hy
    ·exact e.symm
    ·exact (Rk.asymm ((List.pairwise_cons.1 h1).1 y hy) ((List.pairwise_cons.1 h2).1 x hx)).elim
  subst hxy
  rw [srt_unique (List.pairwise_cons.1 h1).2 (List.pairwise_cons.1 h2).2 (List.Perm.cons_inv p)]
theorem srt_app {K : Nat → Int} {P Q : List Nat} (h1 : Srt K P) (h2 : Srt K Q) (h : ∀ x ∈ P, ∀ y ∈ Q, Rk K x y) : Srt K (P ++ Q) := List.pairwise_append.2 ⟨h1, h2, h⟩
theorem get_at {A B : List Nat} {x n : Nat} (h : A.length = n) : (A ++ x :: B)[n]? = some x := by subst h; simp
theorem set_at {A B : List Nat} {x n : Nat} (y : Nat) (h : A.length = n) : (A ++ x :: B).set n y = A ++ y :: B := by subst h; simp
theorem up_ok : ∀ (Q : List Nat) (A B : List Nat) (y k : Nat), A.length = k → upF Q.length k (A ++ y :: (Q ++ B)) = A ++ Q ++ y :: B
 | [], A, B, y, k, h => by simp [upF]
 | q :: Q, A, B, y, k, h => by
  have e1 : (A ++ y :: (q :: Q ++ B))[k]? = some y := get_at h
  have e2 : (A ++ y :: (q :: Q ++ B))[k + 1]? = some q := by
   have := get_at (A := A ++ [y]) (B := Q ++ B) (x := q) (n := k + 1) (by simp [h])
   simpa using this
  have e3 : ((A ++ y :: (q :: Q ++ B)).set k q).set (k + 1) y = (A ++ [q]) ++ y :: (Q ++ B) := by
   rw [set_at q h]
   have := set_at (A := A ++ [q]) (B := Q ++ B) (x := q) (n := k + 1) y (by simp [h])
   simpa using this
  show (match (A ++ y :: (q :: Q ++ B))[k]?, (A ++ y :: (q :: Q ++ B))[k + 1]? with | some x, some y' => upF Q.length (k + 1) (((A ++ y :: (q :: Q ++ B)).set k y').set (k + 1) x) | _, _ => _) = _
  rw [e1, e2]
  show upF Q.length (k + 1) (((A ++ y :: (q :: Q ++ B)).set k q).set (k + 1) y) = _
  rw [e3, up_ok Q (A ++ [q]) B y (k + 1) (by simp [h])]
  simp
theorem dn_ok (n : Nat) : ∀ (P : List Nat), P.length = n → ∀ (A B : List Nat) (y k : Nat), A.length + n = k → dnF n k (A ++ (P ++ y :: B)) = A ++ y :: (P ++ B) := by
 induction n with
 | zero =>
  intro P h A B y k hk
  have : P = [] := List.eq_nil_of_length_eq_zero h
  subst this; simp [dnF]
 | succ n ih =>
  intro P h A B y k hk
  obtain ⟨P', p, rfl⟩ : ∃ P' p, P = P' ++ [p] := by
   rcases List.eq_nil_or_concat P with e | ⟨P', p, e⟩
   ·subst e; simp at h
   ·exact ⟨P', p, by simpa using e⟩
  have hl : P'.length = n := by simpa using h
  have eq0 : A ++ (P' ++ [p] ++ y :: B) = (A ++ P') ++ p :: (y :: B) := by simp
  have eq1 : (A ++ P') ++ p :: (y :: B) = (A ++ P' ++ [p]) ++ y :: B := by simp
  rw [eq0]
  have e1 : ((A ++ P') ++ p :: (y :: B))[k]? = some y := by rw [eq1]; exact get_at (by simp; omega)
  have e2 : ((A ++ P') ++ p :: (y :: B))[k - 1]? = some p := get_at (by simp; omega)
  have e3 : (((A ++ P') ++ p :: (y :: B)).set k p).set (k - 1) y = A ++ (P' ++ y :: (p :: B)) := by
   rw [eq1, set_at p (by simp; omega)]
   have : (A ++ P' ++ [p]) ++ p :: B = (A ++ P') ++ p :: (p :: B) := by simp
   rw [this, set_at y (by simp; omega)]
   simp
  show (match ((A ++ P') ++ p :: (y :: B))[k]?, ((A ++ P') ++ p :: (y :: B))[k - 1]? with | some x, some y' => dnF n (k - 1) ((((A ++ P') ++ p :: (y :: B)).set k y').set (k - 1) x) | _, _ => _) = _
  rw [e1, e2]
  show dnF n (k - 1) ((((A ++ P') ++ p :: (y :: B)).set k p).set (k - 1) y) = _
  rw [e3, ih P' hl A (p :: B) y (k - 1) (by omega)]
  simp
theorem sw_ok (a b : Nat) : ∀ (U V X Y Z : List Nat) (i : Nat), U.length = V.length → a + i = X.length → b + i = X.length + U.length + Y.length →
  swG a b U.length i (X ++ (U ++ (Y ++ (V ++ Z)))) = X ++ (V ++ (Y ++ (U ++ Z)))
 | [], V, X, Y, Z, i, h, _, _ => by
  have : V = [] := List.eq_nil_of_length_eq_zero h.symm
  subst this; simp [swG]
 | u :: U, [], X, Y, Z, i, h, _, _ => by simp at h
 | u :: U, v :: V, X, Y, Z, i, h, h1, h2 => by
  have h : U.length = V.length := by simpa using h
  have h2 : b + i = X.length + (U.length + 1) + Y.length := by simpa using h2
  have eq0 : X ++ (u :: U ++ (Y ++ (v :: V ++ Z))) = X ++ u :: (U ++ (Y ++ (v :: V ++ Z))) := by simp
  have e1 : (X ++ (u :: U ++ (Y ++ (v :: V ++ Z))))[a + i]? = some u := by rw [eq0]; exact get_at h1.symm
  have eq1 : X ++ (u :: U ++ (Y ++ (v :: V ++ Z))) = (X ++ (u :: U ++ Y)) ++ v :: (V ++ Z) := by simp
  have e2 : (X ++ (u :: U ++ (Y ++ (v :: V ++ Z))))[b + i]? = some v := by rw [eq1]; exact get_at (by simp; omega)
  have e3 : ((X ++ (u :: U ++ (Y ++ (v :: V ++ Z)))).set (a + i) v).set (b + i) u = (X ++ [v]) ++ (U ++ ((Y ++ [u]) ++ (V ++ Z))) := by
   rw [eq0, set_at v h1.symm]
   have : X ++ v :: (U ++ (Y ++ (v :: V ++ Z))) = (X ++ (v :: U ++ Y)) ++ v :: (V ++ Z) := by simp
   rw [this, set_at u (by simp; omega)]
   simp
  show (match (X ++ (u :: U ++ (Y ++ (v :: V ++ Z))))[a + i]?, (X ++ (u :: U ++ (Y ++ (v :: V ++ Z))))[b + i]? with | some x, some y => swG a b U.length (i + 1) (((X ++ (u :: U ++ (Y ++ (v :: V ++ Z)))).set (a + i) y).set (b + i) x) | _, _ => _) = _
  rw [e1, e2]
  show swG a b U.length (i + 1) (((X ++ (u :: U ++ (Y ++ (v :: V ++ Z)))).set (a + i) v).set (b + i) u) = _
  rw [e3, sw_ok a b U V (X ++ [v]) (Y ++ [u]) Z (i + 1) h (by simp; omega) (by simp; omega)]
  simp
theorem rot_ok (m : Nat) : ∀ (f : Nat) (W U V Z : List Nat), U.length + V.length ≤ f → 0 < U.length → 0 < V.length → W.length + U.length = m →
  swG (m - (rotL m f U.length V.length (W ++ (U ++ (V ++ Z)))).1) m (rotL m f U.length V.length (W ++ (U ++ (V ++ Z)))).1 0 (rotL m f U.length V.length (W ++ (U ++ (V ++ Z)))).2 = W ++ (V ++ (U ++ Z)) := by
 intro f
 induction f with
 | zero => intro W U V Z h h1; omega
 | succ f ih =>
  intro W U V Z hf hu hv hm
  by_cases he : U.length = V.length
  ·have hr : rotL m (f + 1) U.length V.length (W ++ (U ++ (V ++ Z))) = (U.length, W ++ (U ++ (V ++ Z))) := by simp only [rotL, if_pos he]
   rw [hr]
   have := sw_ok (m - U.length) m U V W [] Z 0 he (by omega) (by simp; omega)
   simpa using this
  ·by_cases hg : U.length > V.length
   ·have hr : rotL m (f + 1) U.length V.length (W ++ (U ++ (V ++ Z))) = rotL m f (U.length - V.length) V.length (swG (m - U.length) m V.length 0 (W ++ (U ++ (V ++ Z)))) := by simp only [rotL, if_neg he, if_pos hg]
    obtain ⟨U1, U2, rfl, hl⟩ : ∃ U1 U2, U = U1 ++ U2 ∧ U1.length = V.length := ⟨U.take V.length, U.drop V.length, (List.take_append_drop _ _).symm, by rw [List.length_take]; omega⟩
    have hs : swG (m - (U1 ++ U2).length) m V.length 0 (W ++ ((U1 ++ U2) ++ (V ++ Z))) = (W ++ V) ++ (U2 ++ (U1 ++ Z)) := by
     have := sw_ok (m - (U1 ++ U2).length) m U1 V W U2 Z 0 hl (by omega) (by simp at hm ⊢; omega)
     rw [hl] at this
     simpa using this
    rw [hr, hs]
    have e1 : (U1 ++ U2).length - V.length = U2.length := by simp; omega
    have e2 : V.length = U1.length := hl.symm
    rw [e1, e2, ih (W ++ V) U2 U1 Z (by simp at hf; omega) (by simp at hg; omega) (by omega) (by simp at hm ⊢; omega)]
    simp
   ·have hr : rotL m (f + 1) U.length V.length (W ++ (U ++ (V ++ Z))) = rotL m f U.length (V.length - U.length) (swG (m - U.length) (m + V.length - U.length) U.length 0 (W ++ (U ++ (V ++ Z)))) := by simp only [rotL, if_neg he, if_neg hg]
    obtain ⟨V1, V2, rfl, hl⟩ : ∃ V1 V2, V = V1 ++ V2 ∧ V2.length = U.length := ⟨V.take (V.length - U.length), V.drop (V.length - U.length), (List.take_append_drop _ _).symm, by rw [List.length_drop]; omega⟩
    have hs : swG (m - U.length) (m + (V1 ++ V2).length - U.length) U.length 0 (W ++ (U ++ ((V1 ++ V2) ++ Z))) = W ++ (V2 ++ (V1 ++ (U ++ Z))) := by
     have := sw_ok (m - U.length) (m + (V1 ++ V2).length - U.length) U V2 W V1 Z 0 hl.symm (by omega) (by simp; omega)
     simpa using this
    rw [hr, hs]
    have e1 : (V1 ++ V2).length - U.length = V1.length := by simp; omega
    have e2 : U.length = V2.length := hl.symm
    rw [e1, e2, ih W V2 V1 (U ++ Z) (by simp at hf; omega) (by omega) (by simp at hg he; omega) (by omega)]
    simp
theorem rotF_ok (A P Q B : List Nat) (a m b : Nat) (ha : A.length = a) (hm : a + P.length = m) (hb : m + Q.length = b) (h1 : 0 < P.length) (h2 : 0 < Q.length) : rotF a m b (A ++ (P ++ (Q ++ B))) = A ++ (Q ++ (P ++ B)) := by
 have := rot_ok m (b - a) A P Q B (by omega) h1 h2 (by omega)
 unfold rotF
 rw [show m - a = P.length by omega, show b - m = Q.length by omega]
 exact this
theorem bsF_ok (K : Nat → Int) (y : Nat) (xs : List Nat) : ∀ (f i j : Nat), i ≤ j → j ≤ xs.length → j - i < f →
  (bsF K y xs f i j = i ∨ ∃ x, xs[bsF K y xs f i j - 1]? = some x ∧ K y < K x) ∧ (bsF K y xs f i j = j ∨ ∃ x, xs[bsF K y xs f i j]? = some x ∧ ¬ K y < K x) := by
 intro f
 induction f with
 | zero => intro i j _ _ h; omega
 | succ f ih =>
  intro i j hij hj hf
  by_cases h : i < j
  ·obtain ⟨x, hx⟩ : ∃ x, xs[(i + j) / 2]? = some x := ⟨_, List.getElem?_eq_getElem (by omega)⟩
   by_cases hc : K y < K x
   ·rw [show bsF K y xs (f + 1) i j = bsF K y xs f ((i + j) / 2 + 1) j from by simp only [bsF, if_pos h, hx, if_pos hc]]
    obtain ⟨g1, g2⟩ := ih ((i + j) / 2 + 1) j (by omega) hj (by omega)
    refine ⟨.inr ?_, g2⟩
    rcases g1 with g1 | g1
    ·rw [g1]; exact ⟨x, by simpa using hx, hc⟩
    ·exact g1
   ·rw [show bsF K y xs (f + 1) i j = bsF K y xs f i ((i + j) / 2) from by simp only [bsF, if_pos h, hx, if_neg hc]]
    obtain ⟨g1, g2⟩ := ih i ((i + j) / 2) (by omega) (by omega) (by omega)
    refine ⟨g1, .inr ?_⟩
    rcases g2 with g2 | g2
    ·rw [g2]; exact ⟨x, hx, hc⟩
    ·exact g2
  ·rw [show bsF K y xs (f + 1) i j = i from by simp only [bsF, if_neg h]]
   exact ⟨.inl rfl, .inl (by omega)⟩
theorem bsG_ok (K : Nat → Int) (y : Nat) (xs : List Nat) : ∀ (f i j : Nat), i ≤ j → j ≤ xs.length → j - i < f →
  (bsG K y xs f i j = i ∨ ∃ x, xs[bsG K y xs f i j - 1]? = some x ∧ ¬ K x < K y) ∧ (bsG K y xs f i j = j ∨ ∃ x, xs[bsG K y xs f i j]? = some x ∧ K x < K y) := by
 intro f
 induction f with
 | zero => intro i j _ _ h; omega
 | succ f ih =>
  intro i j hij hj hf
  by_cases h : i < j
  ·obtain ⟨x, hx⟩ : ∃ x, xs[(i + j) / 2]? = some x := ⟨_, List.getElem?_eq_getElem (by omega)⟩
   by_cases hc : K x < K y
   ·rw [show bsG K y xs (f + 1) i j = bsG K y xs f i ((i + j) / 2) from by simp only [bsG, if_pos h, hx, if_pos hc]]
    obtain ⟨g1, g2⟩ := ih i ((i + j) / 2) (by omega) (by omega) (by omega)
    refine ⟨g1, .inr ?_⟩
    rcases g2 with g2 | g2
    ·rw [g2]; exact ⟨x, hx, hc⟩
    ·exact g2
   ·rw [show bsG K y xs (f + 1) i j = bsG K y xs f ((i + j) / 2 + 1) j from by simp only [bsG, if_pos h, hx, if_neg hc]]
    obtain ⟨g1, g2⟩ := ih ((i + j) / 2 + 1) j (by omega) hj (by omega)
    refine ⟨.inr ?_, g2⟩
    rcases g1 with g1 | g1
    ·rw [g1]; exact ⟨x, by simpa using hx, hc⟩
    ·exact g1
  ·rw [show bsG K y xs (f + 1) i j = i from by simp only [bsG, if_neg h]]
   exact ⟨.inl rfl, .inl (by omega)⟩
theorem bsH_ok (K : Nat → Int) (p : Nat) (xs : List Nat) : ∀ (f i j : Nat), i ≤ j → j ≤ xs.length → j - i < f → j ≤ p + 1 → p < xs.length + i →
  (bsH K p xs f i j = i ∨ ∃ x y, xs[bsH K p xs f i j - 1]? = some x ∧ xs[p - (bsH K p xs f i j - 1)]? = some y ∧ ¬ K x < K y) ∧ (bsH K p xs f i j = j ∨ ∃ x y, xs[bsH K p xs f i j]? = some x ∧ xs[p - bsH K p xs f i j]? = some y ∧ K x < K y) := by
 intro f
 induction f with
 | zero => intro i j _ _ h; omega
 | succ f ih =>
  intro i j hij hj hf hp1 hp2
  by_cases h : i < j
  ·obtain ⟨x, hx⟩ : ∃ x, xs[(i + j) / 2]? = some x := ⟨_, List.getElem?_eq_getElem (by omega)⟩
   obtain ⟨y, hy⟩ : ∃ y, xs[p - (i + j) / 2]? = some y := ⟨_, List.getElem?_eq_getElem (by omega)⟩
   by_cases hc : K x < K y
   ·rw [show bsH K p xs (f + 1) i j = bsH K p xs f i ((i + j) / 2) from by simp only [bsH, if_pos h, hx, hy, if_pos hc]]
    obtain ⟨g1, g2⟩ := ih i ((i + j) / 2) (by omega) (by omega) (by omega) (by omega) hp2
    refine ⟨g1, .inr ?_⟩
    rcases g2 with g2 | g2
    ·rw [g2]; exact ⟨x, y, hx, hy, hc⟩
    ·exact g2
   ·rw [show bsH K p xs (f + 1) i j = bsH K p xs f ((i + j) / 2 + 1) j from by simp only [bsH, if_pos h, hx, hy, if_neg hc]]
    obtain ⟨g1, g2⟩ := ih ((i + j) / 2 + 1) j (by omega) hj (by omega) hp1 (by omega)
    refine ⟨.inr ?_, g2⟩
    rcases g1 with g1 | g1
    ·rw [g1]; exact ⟨x, y, by simpa using hx, by simpa using hy, hc⟩
    ·exact g1
  ·rw [show bsH K p xs (f + 1) i j = i from by simp only [bsH, if_neg h]]
   exact ⟨.inl rfl, .inl (by omega)⟩
end Go.VM
