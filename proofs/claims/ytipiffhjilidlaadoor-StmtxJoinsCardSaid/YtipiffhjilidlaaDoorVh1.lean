/- laid for this seat: VwA VwB VwC VwD VwE VwF -/
import Derived.Test.YtipiffhjilidlaaDoorVh0
section
/- Statements of two blocks in one: the tokens of what stands ahead of a line's end. -/
set_option maxRecDepth 100000
set_option linter.unusedVariables false
set_option linter.unusedSimpArgs false
namespace Go.VM
open Go.RowKit
def skD : Nat → List Nat → Nat
 | 0, _ => 0
 | n + 1, d => if dM (d.drop (aP aN d)) [47, 47] = true then aP aN d + aP cR (d.drop (aP aN d)) + skD n (d.drop (aP aN d + aP cR (d.drop (aP aN d)))) else aP aN d
def sk (d : List Nat) : Nat := skD (d.length + 1) d
theorem aGi (s : List Nat) : ∀ n i, eW s n i = i + skD n (s.drop i)
 | 0, i => rfl
 | n + 1, i => by
  rw [eW, skD, List.drop_drop]
  split
  ·rw [aGi s n, List.drop_drop]
   rw [show i + (aP aN (s.drop i) + aP cR (s.drop (i + aP aN (s.drop i)))) = i + aP aN (s.drop i) + aP cR (s.drop (i + aP aN (s.drop i))) by omega]
   omega
  ·rfl
theorem vM : ∀ n m d, d.length < n → d.length < m → skD n d = skD m d
 | 0, m, d, h, _ => by omega
 | n + 1, 0, d, _, h => by omega
 | n + 1, m + 1, d, h1, h2 => by
  rw [skD, skD]
  split
  ·rename_i hp
   have c2 := tY hp
   have c3 := cI aN d
   have c4 := cI cR (d.drop (aP aN d))
   rw [List.length_drop] at c4
   rw [vM n m _ (by rw [List.length_drop]; omega) (by rw [List.length_drop]; omega)]
  ·rfl
theorem aBi (d : List Nat) : sk d = if dM (d.drop (aP aN d)) [47, 47] = true then aP aN d + aP cR (d.drop (aP aN d)) + sk (d.drop (aP aN d + aP cR (d.drop (aP aN d)))) else aP aN d := by
 conv => lhs; rw [sk, skD]
 split
 ·rename_i hp
  have c2 := tY hp
  have c3 := cI aN d
  have c4 := cI cR (d.drop (aP aN d))
  rw [List.length_drop] at c4
  rw [sk, vM d.length _ _ (by rw [List.length_drop]; omega) (Nat.lt_succ_self _)]
 ·rfl
theorem aGk (s : List Nat) (i : Nat) : eW s (s.length + 1) i = i + sk (s.drop i) := by
 rw [aGi, sk, vM (s.length + 1) _ _ (by rw [List.length_drop]; omega) (Nat.lt_succ_self _)]
theorem kD {p : Nat → Bool} (h : p 10 = false) (r : List Nat) : ∀ l : List Nat, aP p (l ++ 10 :: r) = aP p l
 | [] => by show aP p (10 :: r) = 0; rw [aP, h]
 | c :: l => by rw [List.cons_append, aP, aP, kD h r l]
theorem pF (r : List Nat) : ∀ l : List Nat, aP aN (l ++ 10 :: r) = if aP aN l = l.length then l.length + 1 + aP aN r else aP aN l
 | [] => by
  show aP aN (10 :: r) = _
  rw [show aP aN [] = 0 from rfl, show ([] : List Nat).length = 0 from rfl, if_pos rfl, aP, show aN 10 = true from by decide]
  simp only
  omega
 | c :: l => by
  rw [List.cons_append, aP, aP, pF r l]
  cases aN c with
  | false => simp
  | true =>
   simp only [List.length_cons]
   split
   ·rename_i e; rw [if_pos (by omega)]; omega
   ·rename_i e; rw [if_neg (by omega)]
theorem zO {x : Nat} (h : x ≠ 10) (r : List Nat) : ∀ l : List Nat, dM (l ++ 10 :: r) [x, x] = dM l [x, x]
 | [] => by simp [dM]; omega
 | [c] => by simp [dM]; omega
 | c :: d :: l => by simp [dM]
theorem aYg (N : Nat) : ∀ (u r : List Nat), u.length ≤ N → (sk (u ++ 10 :: r) = if sk (u ++ [10]) < u.length then sk (u ++ [10]) else u.length + 1 + sk r) ∧ (sk (u ++ [10]) < u.length ∨ sk (u ++ [10]) = u.length + 1) := by
 induction N with
 | zero =>
  intro u r hu
  have : u = [] := List.eq_nil_of_length_eq_zero (by omega)
  subst this
  have e : ∀ r, sk ([] ++ 10 :: r) = 1 + sk r := by
   intro r
   rw [List.nil_append, aBi, aBi r, aP, show aN 10 = true from by decide]
   simp only
   rw [show aP aN r + 1 = 1 + aP aN r by omega]
   rw [show (10 :: r).drop (1 + aP aN r) = r.drop (aP aN r) by rw [Nat.add_comm]; rfl]
   split
   ·rw [show (10 :: r).drop (1 + aP aN r + aP cR (r.drop (aP aN r))) = r.drop (aP aN r + aP cR (r.drop (aP aN r))) by rw [show 1 + aP aN r + aP cR (r.drop (aP aN r)) = (aP aN r + aP cR (r.drop (aP aN r))) + 1 by omega]; rfl]
    omega
   ·rfl
  have e0 : sk ([] ++ [10]) = 1 := e []
  rw [e, e0]
  exact ⟨by simp, .inr rfl⟩
 | succ N ih =>
  intro u r hu
  have key : ∀ r, (aP aN u = u.length → sk (u ++ 10 :: r) = u.length + 1 + sk r) ∧ (aP aN u ≠ u.length → sk (u ++ 10 :: r) = if dM (u.drop (aP aN u)) [47, 47] = true then aP aN u + aP cR (u.drop (aP aN u)) + sk (u.drop (aP aN u + aP cR (u.drop (aP aN u))) ++ 10 :: r) else aP aN u) := by
   intro r
   have cl := cI aN u
   constructor
   ·intro hb
    rw [aBi, aBi r, pF, if_pos hb]
    have d1 : ∀ q, (u ++ 10 :: r).drop (u.length + 1 + q) = r.drop q := by
     intro q
     rw [show u.length + 1 + q = u.length + (1 + q) by omega, ← List.drop_drop, List.drop_left, Nat.add_comm]
     rfl
    rw [d1]
    split
    ·rw [show u.length + 1 + aP aN r + aP cR (r.drop (aP aN r)) = u.length + 1 + (aP aN r + aP cR (r.drop (aP aN r))) by omega, d1]
     omega
    ·rfl
   ·intro hb
    rw [aBi, pF, if_neg hb, List.drop_append_of_le_length cl, zO (by decide), kD (p := cR) (by decide)]
    split
    ·rename_i hp
     have c4 := cI cR (u.drop (aP aN u))
     rw [List.length_drop] at c4
     rw [List.drop_append_of_le_length (by omega)]
    ·rfl
  have cl := cI aN u
  by_cases hb : aP aN u = u.length
  ·have e0 := (key []).1 hb
   rw [show sk [] = 0 from rfl] at e0
   rw [(key r).1 hb, e0]
   exact ⟨by rw [if_neg (by omega)], .inr rfl⟩
  ·have h1 := (key r).2 hb
   have h2 := (key []).2 hb
   cases hp : dM (u.drop (aP aN u)) [47, 47] with
   | false =>
    rw [hp] at h1 h2
    simp only [Bool.false_eq_true, if_false] at h1 h2
    rw [h1, h2]
    exact ⟨by rw [if_pos (by omega)], .inl (by omega)⟩
   | true =>
    rw [hp] at h1 h2
    simp only [if_true] at h1 h2
    have c2 := tY hp
    have c4 := cI cR (u.drop (aP aN u))
    rw [List.length_drop] at c4
    obtain ⟨i1, i2⟩ := ih (u.drop (aP aN u + aP cR (u.drop (aP aN u)))) r (by rw [List.length_drop]; omega)
    rw [h1, h2, i1]
    rw [List.length_drop] at i2 ⊢
    rcases i2 with i2 | i2
    ·rw [if_pos i2, if_pos (by omega)]
     exact ⟨rfl, .inl (by omega)⟩
    ·rw [if_neg (by omega), if_neg (by omega)]
     exact ⟨by omega, .inr (by omega)⟩
theorem aVg {s u r : List Nat} {i c : Nat} (h : s.drop i = (c :: u) ++ 10 :: r) : (dR s i c).2 = (dR ((c :: u) ++ [10]) 0 c).2 ∧ ((dR s i c).2 = 0 → (dR s i c).1 = ⟨(dR ((c :: u) ++ [10]) 0 c).1.kind, i, i + (dR ((c :: u) ++ [10]) 0 c).1.e, []⟩ ∧ 1 ≤ (dR ((c :: u) ++ [10]) 0 c).1.e ∧ (dR ((c :: u) ++ [10]) 0 c).1.e ≤ (c :: u).length) := by
 have n1 : ∀ {p : Nat → Bool}, p 10 = false → aP p (s.drop i) = aP p (c :: u) := fun hp => by rw [h, kD hp]
 have n2 : ∀ {p : Nat → Bool}, p 10 = false → aP p (((c :: u) ++ [10]).drop 0) = aP p (c :: u) := fun hp => by rw [List.drop_zero, kD hp]
 have t1 : ∀ n, n ≤ (c :: u).length → (s.drop i).take n = (c :: u).take n := fun n hn => by rw [h, List.take_append_of_le_length hn]
 have t2 : ∀ n, n ≤ (c :: u).length → (((c :: u) ++ [10]).drop 0).take n = (c :: u).take n := fun n hn => by rw [List.drop_zero, List.take_append_of_le_length hn]
 have p1 : ∀ x, x ≠ 10 → dM (s.drop i) [x, x] = dM (c :: u) [x, x] := fun x hx => by rw [h, zO hx]
 have p2 : ∀ x, x ≠ 10 → dM (((c :: u) ++ [10]).drop 0) [x, x] = dM (c :: u) [x, x] := fun x hx => by rw [List.drop_zero, zO hx]
 cases hL : eR c with
 | true =>
  have hn := cI iW (c :: u)
  have hp := qR (p := iW) (s := c :: u) (i := 0) (c := c) rfl (by unfold iW; rw [hL]; rfl)
  rw [List.drop_zero] at hp
  rw [iD hL, iD hL, n1 (by decide), n2 (by decide), t1 _ hn, t2 _ hn]
  exact ⟨rfl, fun _ => ⟨by simp, by simpa using hp, by simpa using hn⟩⟩
 | false =>
 cases hD : dD c with
 | true =>
  have hn := cI dD (c :: u)
  have hp := qR (p := dD) (s := c :: u) (i := 0) (c := c) rfl hD
  rw [List.drop_zero] at hp
  rw [jB hL hD, jB hL hD, n1 (by decide), n2 (by decide)]
  exact ⟨rfl, fun _ => ⟨by simp, by simpa using hp, by simpa using hn⟩⟩
 | false =>
 by_cases h34 : c = 34
 ·subst h34
  rw [kM hL hD rfl, kM hL hD rfl]
  have d1 : s.drop (i + 1) = u ++ 10 :: r := by
   have : s.drop (i + 1) = (s.drop i).drop 1 := by rw [List.drop_drop]
   rw [this, h]; rfl
  have d2 : ((34 :: u) ++ [10]).drop (0 + 1) = u ++ [10] := rfl
  have q1 : tC s i = i + (1 + aP cG u) := by unfold tC; rw [d1, kD (p := cG) (by decide)]; omega
  have q2 : tC ((34 :: u) ++ [10]) 0 = 1 + aP cG u := by unfold tC; rw [d2, kD (p := cG) (by decide)]
  have hle := cI cG u
  have g1 : s[i + (1 + aP cG u)]? = (u ++ 10 :: r)[aP cG u]? := by
   rw [← d1, List.getElem?_drop]
   congr 1
   omega
  have g2 : ((34 :: u) ++ [10])[1 + aP cG u]? = (u ++ [10])[aP cG u]? := by rw [Nat.add_comm]; rfl
  have gg : (u ++ 10 :: r)[aP cG u]? = (u ++ [10])[aP cG u]? := by
   rcases Nat.lt_or_ge (aP cG u) u.length with hlt | hge
   ·rw [List.getElem?_append_left hlt, List.getElem?_append_left hlt]
   ·rw [List.getElem?_append_right hge, List.getElem?_append_right hge, show aP cG u - u.length = 0 by omega]
    rfl
  have hb : wI s i = wI ((34 :: u) ++ [10]) 0 := by
   unfold wI
   rw [q1, q2, d1, d2, g1, g2, gg, kD (p := cG) (by decide), kD (p := cG) (by decide)]
  unfold sU
  rw [hb]
  cases hq : wI ((34 :: u) ++ [10]) 0 with
  | true => exact ⟨rfl, fun e => by cases e⟩
  | false =>
   refine ⟨rfl, fun _ => ⟨?_, ?_, ?_⟩⟩
   ·simp only [q1, q2]
    rfl
   ·simp only [q2]; omega
   ·simp only [q2]
    have : aP cG u < u.length := by
     rcases Nat.lt_or_ge (aP cG u) u.length with hlt | hge
     ·exact hlt
     ·exfalso
      unfold wI at hq
      rw [q2, g2, List.getElem?_append_right hge, show aP cG u - u.length = 0 by omega] at hq
      cases hq
    simp only [List.length_cons]; omega
 cases hp : (dM (c :: u) [61, 61] || dM (c :: u) [38, 38]) with
 | true =>
  have hlen : 2 ≤ (c :: u).length := by
   cases h1 : dM (c :: u) [61, 61] with
   | true => exact tF h1
   | false => rw [h1, Bool.false_or] at hp; exact tF hp
  rw [mS hL hD h34 (by rw [p1 61 (by decide), p1 38 (by decide)]; exact hp), mS hL hD h34 (by rw [p2 61 (by decide), p2 38 (by decide)]; exact hp)]
  exact ⟨rfl, fun _ => ⟨by simp, by simp, by simpa using hlen⟩⟩
 | false =>
  rw [jH hL hD h34 (by rw [p1 61 (by decide), p1 38 (by decide)]; exact hp), jH hL hD h34 (by rw [p2 61 (by decide), p2 38 (by decide)]; exact hp)]
  exact ⟨rfl, fun _ => ⟨by simp, by simp, by simp⟩⟩
def shK (k : Nat) (t : Tk) : Tk := ⟨t.kind, t.a + k, t.e + k, t.text⟩
def aJm : Nat → List Nat → Option (List Tk)
 | 0, _ => none
 | f + 1, u => match decide (u.length ≤ sk (u ++ [10])) with
  | true => some []
  | false => match u.drop (sk (u ++ [10])) with
   | [] => none
   | c :: v => match dR ((c :: v) ++ [10]) 0 c with
    | (t, 0) => match aJm f ((c :: v).drop t.e) with
     | some q => some (⟨t.kind, sk (u ++ [10]), sk (u ++ [10]) + t.e, (c :: v).take t.e⟩ :: q.map (shK (sk (u ++ [10]) + t.e)))
     | none => none
    | (_, _ + 1) => none
theorem uO (s : List Nat) : ∀ (f : Nat) (u : List Nat), u.length < f → ∀ i r m l T x, s.drop i = u ++ 10 :: r → s.length + 1 ≤ m + i → lZ s m (eW s (s.length + 1) i) l = (T, x, 0) →
  ∃ q m', aJm f u = some q ∧ lZ s m' (eW s (s.length + 1) (i + u.length + 1)) (l ++ q.map (shK i)) = (T, x, 0) ∧ s.length + 1 ≤ m' + (i + u.length + 1) := by
 intro f
 induction f with
 | zero => intro u hu; omega
 | succ f ih =>
  intro u hu i r m l T x hd hm h
  have hlen : s.length = i + (u.length + 1 + r.length) := by
   have := congrArg List.length hd
   rw [List.length_drop, List.length_append, List.length_cons] at this
   omega
  obtain ⟨k1, k2⟩ := aYg u.length u r (Nat.le_refl _)
  have hd2 : s.drop (i + u.length + 1) = r := by
   have : s.drop (i + u.length + 1) = (s.drop i).drop (u.length + 1) := by rw [List.drop_drop]; rfl
   rw [this, hd, ← List.drop_drop, List.drop_left]; rfl
  rw [aGk, hd, k1] at h
  unfold aJm
  rcases k2 with k2 | k2
  ·rw [if_pos k2] at h
   rw [decide_eq_false (show ¬ u.length ≤ sk (u ++ [10]) by omega)]
   generalize sk (u ++ [10]) = j at k2 h
   simp only
   cases hv : u.drop j with
   | nil =>
    have := congrArg List.length hv
    rw [List.length_drop, List.length_nil] at this
    omega
   | cons c v =>
    have hp : s.drop (i + j) = (c :: v) ++ 10 :: r := by
     have : s.drop (i + j) = (s.drop i).drop j := by rw [List.drop_drop]
     rw [this, hd, List.drop_append_of_le_length (by omega), hv]
    have hvl : (c :: v).length = u.length - j := by rw [← hv, List.length_drop]
    obtain ⟨m0, rfl⟩ : ∃ m0, m = m0 + 1 := ⟨m - 1, by omega⟩
    obtain ⟨q1, q2⟩ := aVg hp
    rw [lZ, wA hp] at h
    simp only [aFg] at h
    split at h
    ·rename_i t ht
     rw [Prod.mk.injEq] at ht
     obtain ⟨ht1, ht2⟩ := ht
     have hz : (dR s (i + j) c).2 = 0 := by
      split at ht2
      ·cases ht2
      ·exact ht2
     obtain ⟨e1, e2, e3⟩ := q2 hz
     rw [hz] at q1
     rw [ht1] at e1
     simp only
     generalize dR ((c :: v) ++ [10]) 0 c = tz at q1 e1 e2 e3 ⊢
     obtain ⟨t0, z0⟩ := tz
     simp only at q1 e1 e2 e3
     subst e1
     subst q1
     simp only
     have hd3 : s.drop (i + j + t0.e) = (c :: v).drop t0.e ++ 10 :: r := by
      have : s.drop (i + j + t0.e) = (s.drop (i + j)).drop t0.e := by rw [List.drop_drop]
      rw [this, hp, List.drop_append_of_le_length e3]
     have hl3 : ((c :: v).drop t0.e).length = u.length - j - t0.e := by rw [List.length_drop, hvl]
     obtain ⟨q, m', g1, g2, g3⟩ := ih ((c :: v).drop t0.e) (by omega) (i + j + t0.e) r m0 _ T x hd3 (by omega) h
     rw [g1]
     simp only
     have ee : i + j + t0.e + ((c :: v).drop t0.e).length + 1 = i + u.length + 1 := by omega
     rw [ee] at g2 g3
     refine ⟨_, m', rfl, ?_, g3⟩
     rw [← g2]
     congr 1
     rw [List.append_assoc]
     congr 1
     rw [List.map_cons, List.map_map]
     show _ = [_] ++ _
     have a1 : (i + j + t0.e - (i + j)) = t0.e := by omega
     have a2 : (s.drop (i + j)).take t0.e = (c :: v).take t0.e := by rw [hp, List.take_append_of_le_length e3]
     have a3 : (shK i ∘ shK (j + t0.e)) = shK (i + j + t0.e) := by
      funext t
      simp only [shK, Function.comp]
      congr 1 <;> omega
     rw [a3]
     simp only [shK, a1, a2]
     rw [show j + i = i + j by omega, show j + t0.e + i = i + j + t0.e by omega]
     rfl
    ·cases h
  ·rw [if_neg (by omega)] at h
   rw [decide_eq_true (show u.length ≤ sk (u ++ [10]) by omega)]
   refine ⟨[], m, rfl, ?_, by omega⟩
   rw [aGk, hd2, List.map_nil, List.append_nil, ← h]
   congr 1
   omega
theorem aBt {s : List Nat} {i m : Nat} {l T : List Tk} {x : Nat} (hd : s.drop i = [125]) (hm : s.length + 1 ≤ m + i) (h : lZ s m (eW s (s.length + 1) i) l = (T, x, 0)) : T = l ++ [⟨4, i, i + 1, [125]⟩, kP s] := by
 have hlen : s.length = i + 1 := by
  have := congrArg List.length hd
  rw [List.length_drop] at this
  simp at this
  omega
 obtain ⟨m0, rfl⟩ : ∃ m0, m = m0 + 1 + 1 := ⟨m - 2, by omega⟩
 rw [aIl hd (by decide) (by decide)] at h
 have hl : l.length < 4000 := by
  rcases Nat.lt_or_ge l.length 4000 with q | q
  ·exact q
  ·exfalso
   rw [lZ, wA hd] at h
   simp only [aFg, if_pos q] at h
   cases h
 have hd1 := aKc hd
 rw [aYp hd (aFx hd (.inr rfl)) (j := i + 1) (aGm hd1 rfl rfl) (m0 + 1) l hl, lZ, show s[i + 1]? = none from List.getElem?_eq_none (by omega)] at h
 cases h
 rw [List.append_assoc]
 simp only [Nat.add_sub_cancel_left]
 rfl
end Go.VM
end
section
/- Statements of two blocks in one: the texts' tokens; what is read. -/
set_option maxRecDepth 100000
set_option linter.unusedVariables false
set_option linter.unusedSimpArgs false
namespace Go.VM
open Go.RowKit
def jK (a : List Nat) : List Nat := 123 :: (a ++ [10, 125])
def jM (a b : List Nat) : List Nat := 123 :: (a ++ 10 :: (b ++ [10, 125]))
def t0K : Tk := ⟨4, 0, 1, [123]⟩
theorem uV {s : List Nat} {T : List Tk} {x : Nat} (s' : List Nat) (hs : s = 123 :: s') (h : bV s = (T, x, 0)) : lZ s s.length (eW s (s.length + 1) 1) [t0K] = (T, x, 0) := by
 have hd : s.drop 0 = 123 :: s' := by rw [List.drop_zero, hs]
 unfold bV at h
 rw [aIl hd (by decide) (by decide), aYp hd (aFx hd (.inl rfl)) (j := eW s (s.length + 1) 1) rfl s.length [] (by decide)] at h
 exact h
theorem wW {a : List Nat} {T : List Tk} {x : Nat} (h : bV (jK a) = (T, x, 0)) : ∃ q, aJm (a.length + 1) a = some q ∧ T = t0K :: (q.map (shK 1) ++ [⟨4, a.length + 2, a.length + 3, [125]⟩, kP (jK a)]) := by
 have h1 := uV _ rfl h
 obtain ⟨q, m', g1, g2, g3⟩ := uO (jK a) (a.length + 1) a (Nat.lt_succ_self _) 1 [125] _ _ T x rfl (Nat.le_refl _) h1
 have hd : (jK a).drop (1 + a.length + 1) = [125] := by
  rw [show 1 + a.length + 1 = a.length + 1 + 1 by omega]
  show (a ++ [10, 125]).drop (a.length + 1) = _
  rw [← List.drop_drop, List.drop_left]; rfl
 refine ⟨q, g1, ?_⟩
 rw [aBt hd g3 g2]
 rw [show 1 + a.length + 1 = a.length + 2 by omega]
 simp
theorem aJy {a b : List Nat} {T : List Tk} {x : Nat} (h : bV (jM a b) = (T, x, 0)) : ∃ q p, aJm (a.length + 1) a = some q ∧ aJm (b.length + 1) b = some p ∧ T = t0K :: (q.map (shK 1) ++ (p.map (shK (a.length + 2)) ++ [⟨4, a.length + b.length + 3, a.length + b.length + 4, [125]⟩, kP (jM a b)])) := by
 have h1 := uV _ rfl h
 obtain ⟨q, m', g1, g2, g3⟩ := uO (jM a b) (a.length + 1) a (Nat.lt_succ_self _) 1 (b ++ [10, 125]) _ _ T x rfl (Nat.le_refl _) h1
 have hd : (jM a b).drop (1 + a.length + 1) = b ++ 10 :: [125] := by
  rw [show 1 + a.length + 1 = a.length + 1 + 1 by omega]
  show (a ++ 10 :: (b ++ [10, 125])).drop (a.length + 1) = _
  rw [← List.drop_drop, List.drop_left]; rfl
 obtain ⟨p, m2, k1, k2, k3⟩ := uO (jM a b) (b.length + 1) b (Nat.lt_succ_self _) _ [125] m' _ T x hd g3 g2
 have hd2 : (jM a b).drop (1 + a.length + 1 + b.length + 1) = [125] := by
  have : (jM a b).drop (1 + a.length + 1 + b.length + 1) = ((jM a b).drop (1 + a.length + 1)).drop (b.length + 1) := by rw [List.drop_drop]; rfl
  rw [this, hd, ← List.drop_drop, List.drop_left]; rfl
 refine ⟨q, p, g1, k1, ?_⟩
 rw [aBt hd2 k3 k2]
 rw [show 1 + a.length + 1 = a.length + 2 by omega, show a.length + 2 + b.length + 1 = a.length + b.length + 3 by omega]
 simp
section
variable {l : List Tz} {P : Nat → R Ex}
structure P0S (l : List Tz) (f : Sf) : Prop where
 block : ∀ d s v s', s.a ≤ l.length → s.p = 0 → f.block d s = some (v, s') → s'.c = 0 → s'.p = 0
 loop : ∀ d acc s v s', s.a ≤ l.length → s.p = 0 → f.loop d acc s = some (v, s') → s'.c = 0 → s'.p = 0
 stmt : ∀ d s v s', s.a ≤ l.length → s.p = 0 → f.stmt d s = some (v, s') → s'.c = 0 → s'.p = 0
theorem zC {s : Sr} {x : List Nat} (h : s.p = 0) (hc : (bP l s x).c = 0) : (bP l s x).p = 0 := by
 rw [(iR hc).2.1]; exact h
theorem sI (hP : ParseOk l P) {s : Sr} (hs : s.a ≤ l.length) (hc : (aU P s).2.c = 0) : (aU P s).2.p = 0 := by
 obtain ⟨_, x, a', _, h⟩ := rT hP hs hc
 rw [h]
theorem aMf (hP : ParseOk l P) {s : Sr} (hs : s.a ≤ l.length) {k : Nat} {p : Int} {nm : List Nat} (hc : (lI l P k p nm s).2.c = 0) : (lI l P k p nm s).2.p = 0 := by
 have m1 := bL hs (x := [61])
 have m2 := bB hP m1.len
 have m3 := bL m2.len (x := [59])
 unfold lI at hc ⊢
 exact zC (sI hP m1.len (m3.fine hc)) hc
theorem aQr (hP : ParseOk l P) {f : Sf} (iv : InvS l f) (h : P0S l f) : P0S l ⟨bW l f, bZ l f, eU l P f⟩ := by
 refine ⟨fun d s v s' hs hp e hc => ?_, fun d acc s v s' hs hp e hc => ?_, fun d s v s' hs hp e hc => ?_⟩
 ·have e : bW l f d s = some (v, s') := e
  unfold bW at e
  split at e
  ·cases e; exact (kY (by decide) hc).elim
  ·have ms := bL hs (x := [123])
   have c1 := (iv.loop _ _ _ _ _ ms.len e).fine hc
   exact h.loop _ _ _ _ _ ms.len (zC hp c1) e hc
 ·have e : bZ l f d acc s = some (v, s') := e
  unfold bZ at e
  split at e
  ·cases e; exact hp
  ·split at e
   ·cases e; exact hp
   ·split at e
    ·rename_i x s1 hx
     have m1 := iv.stmt _ _ _ _ hs hx
     have c1 := (iv.loop _ _ _ _ _ m1.len e).fine hc
     exact h.loop _ _ _ _ _ m1.len (h.stmt _ _ _ _ hs hp hx c1) e hc
    ·cases e
 ·have e : eU l P f d s = some (v, s') := e
  unfold eU at e
  split at e
  ·rename_i hi
   have n1 := aQ (cA hi (by decide))
   split at e
   ·rename_i hk
    have n2 := cQ (l := l) (a := s.a + 1) (by rw [of_decide_eq_true hk]; decide)
    have v0 := aMf hP (s := aO (aO s)) n2 (k := 1) (p := (aC l s.a).a) (nm := (aC l (s.a + 1)).t)
    rw [Option.some.inj e] at v0; exact v0 hc
   ·have f1 := kU n1.len (c := 5) (by decide)
    have v0 := aMf hP f1.len (k := 1) (p := (aC l s.a).a) (nm := [])
    rw [Option.some.inj e] at v0; exact v0 hc
  ·split at e
   ·rename_i hi
    have n1 := aQ (cA hi (by decide))
    split at e
    ·cases e; exact hp
    ·cases e
     have m2 := bB hP n1.len
     exact zC (sI hP n1.len ((bL m2.len).fine hc)) hc
   ·split at e
    ·rename_i hi
     have n1 := aQ (cA hi (by decide))
     have m2 := bB hP n1.len
     split at e
     ·cases e
     ·rename_i b s1 hb
      have m3 := iv.block _ _ _ _ m2.len hb
      split at e
      ·rename_i h4
       have n4 := aQ (cA h4 (by decide))
       split at e
       ·cases e
       ·rename_i b2 s2 hb2
        have m6 := iv.block _ _ _ _ n4.len hb2
        cases e
        have c1 := n4.fine (m6.fine hc)
        have p1 := h.block _ _ _ _ m2.len (sI hP n1.len (m3.fine c1)) hb c1
        exact h.block _ _ _ _ n4.len (show (aO s1).p = 0 from p1) hb2 hc
      ·cases e
       exact h.block _ _ _ _ m2.len (sI hP n1.len (m3.fine hc)) hb hc
    ·split at e
     ·rename_i hi
      have n1 := aQ (cA hi (by decide))
      have m2 := bB hP n1.len
      split at e
      ·cases e
      ·rename_i b s1 hb
       have m3 := iv.block _ _ _ _ m2.len hb
       cases e
       exact h.block _ _ _ _ m2.len (sI hP n1.len (m3.fine hc)) hb hc
     ·split at e
      ·rename_i hb
       unfold rY at hb
       rw [Bool.and_eq_true] at hb
       have n2 := cQ (l := l) (a := s.a) (by rw [of_decide_eq_true hb.1]; decide)
       have v0 := aMf hP (s := aO s) n2 (k := 2) (p := (aC l s.a).a) (nm := (aC l s.a).t)
       rw [Option.some.inj e] at v0; exact v0 hc
      ·cases e
       have m2 := bB hP hs
       exact zC (sI hP hs ((bL m2.len).fine hc)) hc
theorem aFv (hP : ParseOk l P) : ∀ n, P0S l (bC l P n)
 | 0 => ⟨fun _ _ _ _ _ _ e => (by cases e), fun _ _ _ _ _ _ _ e => (by cases e), fun _ _ _ _ _ _ e => (by cases e)⟩
 | n + 1 => aQr hP (cB hP n) (aFv hP n)
def EvS {α : Type} (r : Nat → Option α) (v : α) : Prop := ∃ N, ∀ n, N ≤ n → r n = some v
theorem aOm (l : List Tz) (P : Nat → R Ex) (d : Nat) (pre : List Sx) : ∀ m acc s, (bC l P m).loop d (pre ++ acc) s = ((bC l P m).loop d acc s).map fun r => (pre ++ r.1, r.2) := by
 intro m
 induction m with
 | zero => intro acc s; rfl
 | succ m ih =>
  intro acc s
  show bZ l (bC l P m) d (pre ++ acc) s = (bZ l (bC l P m) d acc s).map _
  unfold bZ
  cases cC s with
  | false => rfl
  | true =>
   cases isS l s 4 [125] with
   | true => rfl
   | false =>
    simp only
    cases (bC l P m).stmt d s with
    | none => rfl
    | some q =>
     obtain ⟨x, s1⟩ := q
     simp only
     rw [List.append_assoc]
     exact ih _ _
end
section
variable {n : Nat} {l l' : List Tz} {P P' : Nat → R Ex}
theorem aKh (t : TokS 0 n 0 0 l l' P P') (hP : ParseOk l P) (hn : n < l.length) : ∀ (k : Nat) (acc : List Sx) (s : Sr) (v : List Sx) (s1 : Sr), l.length ≤ s.a + k → s.a ≤ l.length → s.p = 0 → EvS (fun m => (bC l P m).loop 1 acc s) (v, s1) → s1.c = 0 → s1.a = n + 1 →
  ∀ w, EvS (fun m => (bC l' P' m).loop 1 v ⟨n, 0, 0⟩) w → EvS (fun m => (bC l' P' m).loop 1 acc s) w := by
 intro k
 induction k with
 | zero =>
  intro acc s v s1 hk hs hp ⟨N, e⟩ hc ha
  have stp := (cB hP N).loop _ _ _ _ _ hs (e N (Nat.le_refl _))
  have := stp.lt hc
  have := stp.len
  omega
 | succ k ih =>
  intro acc s v s1 hk hs hp ⟨N, e⟩ hc ha w hw
  have stp := (cB hP N).loop _ _ _ _ _ hs (e N (Nat.le_refl _))
  have hlt := stp.lt hc
  have c0 := stp.fine hc
  cases h1 : isS l s 4 [125] with
  | true =>
   have e1 : bZ l (bC l P N) 1 acc s = some (v, s1) := e (N + 1) (by omega)
   unfold bZ at e1
   rw [eS.2 c0, h1] at e1
   cases e1
   have : s = ⟨n, 0, 0⟩ := by
    obtain ⟨sa, sp, sc⟩ := s
    have ha : sa + 1 = n + 1 := ha
    have hp : sp = 0 := hp
    have c0 : sc = 0 := c0
    subst hp; subst c0
    rw [show sa = n by omega]
   rw [this] at *
   exact hw
  | false =>
   obtain ⟨M, ⟨x, s2⟩, es⟩ := (aXz hP l.length s.a (by omega) hs).stmt 1 s rfl
   have es : ∀ q, M ≤ q → (bC l P q).stmt 1 s = some (x, s2) := es
   have m1 := (cB hP M).stmt _ _ _ _ hs (es M (Nat.le_refl _))
   have e2 : EvS (fun m => (bC l P m).loop 1 (acc ++ [x]) s2) (v, s1) := by
    refine ⟨max N M, fun m hm => ?_⟩
    have e1 : bZ l (bC l P m) 1 acc s = some (v, s1) := e (m + 1) (by omega)
    unfold bZ at e1
    rw [eS.2 c0, h1, es m (by omega)] at e1
    exact e1
   obtain ⟨N2, e3⟩ := e2
   have m2 := (cB hP N2).loop _ _ _ _ _ m1.len (e3 N2 (Nat.le_refl _))
   have c2 := m2.fine hc
   have a2 := m2.lt hc
   have lt2 := m1.lt c2
   obtain ⟨N3, e4⟩ : EvS (fun m => (bC l' P' m).loop 1 (acc ++ [x]) s2) w := ih (acc ++ [x]) s2 v s1 (by omega) m1.len ((aFv hP M).stmt _ _ _ _ hs hp (es M (Nat.le_refl _)) c2) ⟨N2, e3⟩ hc ha w hw
   refine ⟨max N3 M + 1, fun m hm => ?_⟩
   obtain ⟨m, rfl⟩ : ∃ q, m = q + 1 := ⟨m - 1, by omega⟩
   show bZ l' (bC l' P' m) 1 acc s = some w
   have st := (uH t hP (by omega) m).stmt 1 s (Nat.zero_le _) hs x s2 (es m (by omega)) c2 (by omega)
   have i0 := t.is (s := s) (Nat.zero_le _) (by omega) 4 [125]
   have sh : ∀ q : Sr, shS 0 q = q := fun q => rfl
   rw [sh, sh, aOz] at st
   rw [sh] at i0
   unfold bZ
   rw [eS.2 c0, i0, h1, st]
   have e4 : ∀ q, N3 ≤ q → (bC l' P' q).loop 1 (acc ++ [x]) s2 = some w := e4
   exact e4 m (by omega)
end
end Go.VM
end
section
/- Statements of two blocks in one: the plain law. -/
set_option maxRecDepth 100000
set_option linter.unusedVariables false
set_option linter.unusedSimpArgs false
namespace Go.VM
open Go.RowKit
theorem aHd {l : List Tz} {a : Nat} {x : Ex} {a' : Nat} (e : PL l a = .ok x a') : a ≤ l.length := by
 rcases Nat.lt_or_ge l.length a with h | h
 ·unfold PL at e
  rw [dif_neg (by omega)] at e
  cases e
 ·exact h
theorem aOr {lo k a a' : Nat} {b : Int} {l l' : List Tz} {x : Ex} (tok : ∀ i, lo ≤ i → i < a' → aC l' (i + k) = shZ b (aC l i)) (hst : jX (aC l' (a' + k)) = true) (h0 : lo ≤ a) (e : PL l a = .ok x a') (hle : a + k ≤ l'.length) : PL l' (a + k) = .ok (shX b x) (a' + k) := by
 obtain ⟨_, N, hN⟩ := jZ l (aHd e)
 obtain ⟨_, N', hN'⟩ := jZ l' hle
 have sm : Same lo a' k b l l' := ⟨tok, hst⟩
 rcases (aGq (dd := 0) sm (max N N')).expr 1 a 0 h0 (Nat.le_refl _) x a' (by rw [hN _ (by omega)]; exact e) (Nat.le_refl _) with f | ⟨f, _⟩
 ·rw [← hN' (max N N') (by omega)]
  exact f
 ·omega
theorem aOy {l : List Tz} {a : Nat} (h : isF l a 5 jJ = true) : ∀ N, (∀ lv d x a', (fns l N).expr lv a d ≠ .ok x a') ∧ (∀ d x a', (fns l N).oper a d ≠ .ok x a') ∧ ∀ d x a', (fns l N).prim a d ≠ .ok x a' := by
 unfold isF at h
 simp only [Bool.and_eq_true, decide_eq_true_eq] at h
 obtain ⟨h1, h2⟩ := h
 intro N
 induction N with
 | zero => exact ⟨fun _ _ _ _ e => (by cases e), fun _ _ _ e => (by cases e), fun _ _ _ e => (by cases e)⟩
 | succ N ih =>
  obtain ⟨i1, i2, i3⟩ := ih
  refine ⟨fun lv d x a' e => ?_, fun d x a' e => ?_, fun d x a' e => ?_⟩
  ·have e : dX (fns l N) lv a d = .ok x a' := e
   unfold dX at e
   split at e
   ·exact i2 _ _ _ e
   ·obtain ⟨y, a1, e1, _⟩ := aX e
    exact i1 _ _ _ _ e1
  ·have e : eI l (fns l N) a d = .ok x a' := e
   unfold eI isF at e
   rw [h1] at e
   obtain ⟨y, a1, e1, _⟩ := aX e
   exact i3 _ _ _ e1
  ·have e : eG l (fns l N) a d = .ok x a' := e
   unfold eG isF at e
   rw [h1, h2] at e
   cases e
theorem aSp {l : List Tz} {a : Nat} (h : isF l a 5 jJ = true) {x : Ex} {a' : Nat} : PL l a ≠ .ok x a' := by
 intro e
 obtain ⟨_, N, hN⟩ := jZ l (aHd e)
 exact (aOy h N).1 1 0 x a' (by rw [hN N (Nat.le_refl _)]; exact e)
theorem aKw {l : List Tz} {P : Nat → R Ex} (hP : ParseOk l P) {f : Sf} {d : Nat} {s : Sr} (hs : s.a ≤ l.length) (h : isF l s.a 5 jJ = true) {v : Sx} {s' : Sr} (e : eU l P f d s = some (v, s')) (hc : s'.c = 0) : ∃ x a', P s.a = .ok x a' := by
 unfold isF at h
 simp only [Bool.and_eq_true, decide_eq_true_eq] at h
 have no : ∀ x, x ≠ jJ → isS l s 5 x = false := by
  intro x hx
  unfold isS isF
  rw [h.2, show decide (jJ = x) = false from decide_eq_false (fun e => hx e.symm), Bool.and_false, Bool.and_false]
 unfold eU at e
 rw [no aIp (by decide), no aJt (by decide), no sIf (by decide), no aIt (by decide)] at e
 unfold rY at e
 rw [h.1] at e
 have e : some (Sx.mk 6 (aC l s.a).a [] false (aU P s).1 [] [], bP l (aU P s).2 [59]) = some (v, s') := e
 cases e
 have m2 := bB hP hs
 obtain ⟨_, x, a', h3, _⟩ := rT hP hs ((bL m2.len).fine hc)
 exact ⟨x, a', h3⟩
theorem uJ {l : List Tz} {P : Nat → R Ex} (h : isF l 0 4 [123] = true) {r : List Sx × Sr} (e : EvS (fun m => (bC l P m).block 0 ⟨0, 0, 0⟩) r) : EvS (fun m => (bC l P m).loop 1 [] ⟨1, 0, 0⟩) r := by
 obtain ⟨N, e⟩ := e
 refine ⟨N, fun m hm => ?_⟩
 have e1 : bW l (bC l P m) 0 ⟨0, 0, 0⟩ = some r := e (m + 1) (by omega)
 unfold bW at e1
 rw [show lB l 0 ⟨0, 0, 0⟩ = false from rfl] at e1
 have hm : bP l ⟨0, 0, 0⟩ [123] = ⟨1, 0, 0⟩ := by
  unfold bP isS
  rw [h]
  rfl
 simp only at e1
 rw [hm] at e1
 exact e1
theorem aFa {l : List Tz} {P : Nat → R Ex} (h : isF l 0 4 [123] = true) {r : List Sx × Sr} (e : EvS (fun m => (bC l P m).loop 1 [] ⟨1, 0, 0⟩) r) : EvS (fun m => (bC l P m).block 0 ⟨0, 0, 0⟩) r := by
 obtain ⟨N, e⟩ := e
 refine ⟨N + 1, fun m hm => ?_⟩
 obtain ⟨m, rfl⟩ : ∃ q, m = q + 1 := ⟨m - 1, by omega⟩
 show bW l (bC l P m) 0 ⟨0, 0, 0⟩ = some r
 unfold bW
 rw [show lB l 0 ⟨0, 0, 0⟩ = false from rfl]
 have hm2 : bP l ⟨0, 0, 0⟩ [123] = ⟨1, 0, 0⟩ := by
  unfold bP isS
  rw [h]
  rfl
 simp only
 rw [hm2]
 exact e m (by omega)
theorem uX {u v : List Tz} {i : Nat} {t : Tz} (h : u[i]? = some t) : aC (u ++ v) i = t := by
 have := (List.getElem?_eq_some_iff.1 h).1
 exact iV (by rw [List.getElem?_append_left this, h])
theorem aAj {u v : List Tz} {i : Nat} {t : Tz} (h : v[i]? = some t) : aC (u ++ v) (u.length + i) = t := by
 exact iV (by rw [List.getElem?_append_right (by omega), Nat.add_sub_cancel_left, h])
theorem aLn (A B : List Tz) (z0 sK eK sL eL eM : Tz) (β : Int) (h0 : z0.k = 4 ∧ z0.t = [123]) (hK : sK.k = 4 ∧ sK.t = [125]) (hL : sL.k = 4 ∧ sL.t = [125])
  (pK : ParseOk ((z0 :: A) ++ [sK, eK]) (PL ((z0 :: A) ++ [sK, eK]))) (pL : ParseOk ((z0 :: B) ++ [sL, eL]) (PL ((z0 :: B) ++ [sL, eL])))
  {x y : List Sx} {s1 s2 : Sr} (e1 : EvS (fun m => (bC ((z0 :: A) ++ [sK, eK]) (PL ((z0 :: A) ++ [sK, eK])) m).block 0 ⟨0, 0, 0⟩) (x, s1)) (c1 : s1.c = 0) (a1 : s1.a = A.length + 2)
  (e2 : EvS (fun m => (bC ((z0 :: B) ++ [sL, eL]) (PL ((z0 :: B) ++ [sL, eL])) m).block 0 ⟨0, 0, 0⟩) (y, s2)) (c2 : s2.c = 0) (a2 : s2.a = B.length + 2) :
  EvS (fun m => (bC ((z0 :: A) ++ (B.map (shZ β) ++ [shZ β sL, eM])) (PL ((z0 :: A) ++ (B.map (shZ β) ++ [shZ β sL, eM]))) m).block 0 ⟨0, 0, 0⟩) (x ++ dI β y, shS A.length s2) := by
 obtain ⟨ZK, hZK⟩ : ∃ Z, Z = (z0 :: A) ++ [sK, eK] := ⟨_, rfl⟩
 obtain ⟨ZL, hZL⟩ : ∃ Z, Z = (z0 :: B) ++ [sL, eL] := ⟨_, rfl⟩
 obtain ⟨ZM, hZM⟩ : ∃ Z, Z = (z0 :: A) ++ (B.map (shZ β) ++ [shZ β sL, eM]) := ⟨_, rfl⟩
 rw [← hZK] at pK e1
 rw [← hZL] at pL e2
 rw [← hZM]
 have lK : ZK.length = A.length + 3 := by rw [hZK]; simp
 have lL : ZL.length = B.length + 3 := by rw [hZL]; simp
 have lM : ZM.length = A.length + B.length + 3 := by rw [hZM]; simp; omega
 have isf : ∀ v : List Tz, isF ((z0 :: A) ++ v) 0 4 [123] = true := by
  intro v
  unfold isF
  rw [uX (t := z0) rfl, h0.1, h0.2]
  rfl
 have isf' : ∀ v : List Tz, isF ((z0 :: B) ++ v) 0 4 [123] = true := by
  intro v
  unfold isF
  rw [uX (t := z0) rfl, h0.1, h0.2]
  rfl
 have f1 := uJ (by rw [hZK]; exact isf _) e1
 have f2 := uJ (by rw [hZL]; exact isf' _) e2
 refine aFa (by rw [hZM]; exact isf _) ?_
 have tkK : ∀ i, i < A.length + 1 → aC ZM i = aC ZK i := by
  intro i hi
  have : (z0 :: A)[i]? = some (z0 :: A)[i] := List.getElem?_eq_getElem (by simp; omega)
  rw [hZM, hZK, uX this, uX this]
 have enK : aC ZK (A.length + 1) = sK := by rw [hZK]; exact aAj (u := z0 :: A) (i := 0) rfl
 have tkL : ∀ i, 1 ≤ i → i < B.length + 1 → aC ZM (i + A.length) = shZ β (aC ZL i) := by
  intro i h1 hi
  obtain ⟨j, rfl⟩ : ∃ j, i = j + 1 := ⟨i - 1, by omega⟩
  obtain ⟨bj, hj⟩ : ∃ t, B[j]? = some t := by
   cases hh : B[j]? with
   | some t => exact ⟨t, rfl⟩
   | none => have := List.getElem?_eq_none_iff.1 hh; omega
  have q1 : aC ZL (j + 1) = bj := by rw [hZL]; exact uX (u := z0 :: B) (by rw [List.getElem?_cons_succ]; exact hj)
  have q2 : aC ZM ((z0 :: A).length + j) = shZ β bj := by
   rw [hZM]
   refine aAj ?_
   rw [List.getElem?_append_left (by rw [List.length_map]; omega), List.getElem?_map, hj]
   rfl
  rw [q1, ← q2]
  congr 1
  simp only [List.length_cons]
  omega
 have enL : aC ZL (B.length + 1) = sL := by rw [hZL]; exact aAj (u := z0 :: B) (i := 0) rfl
 have enM : aC ZM (B.length + 1 + A.length) = shZ β sL := by
  have : aC ZM ((z0 :: A).length + B.length) = shZ β sL := by
   rw [hZM]
   refine aAj ?_
   rw [List.getElem?_append_right (by rw [List.length_map]; omega), List.length_map, Nat.sub_self]
   rfl
  rw [← this]
  congr 1
  simp only [List.length_cons]
  omega
 have sh0 : ∀ t : Tz, shZ 0 t = t := fun t => by simp [shZ]
 have shst : ∀ t : Tz, jX (shZ β t) = jX t := fun t => rfl
 have tL : TokS 1 (B.length + 1) A.length β ZL ZM (PL ZL) (PL ZM) := by
  refine ⟨tkL, ?_, fun a x a' h1 e ha hst => ?_⟩
  ·unfold isF
   rw [enM]
   show (decide (sL.k = 5) && _) = false
   rw [hL.1]
   rfl
  ·have hm := (pL.ok a x a' (aHd e) e).1
   exact aOr (lo := 1) (fun i q1 q2 => tkL i q1 (by omega)) (by rw [tkL a' (by omega) ha, shst]; exact hst) h1 e (by omega)
 have g2 : EvS (fun m => (bC ZM (PL ZM) m).loop 1 x ⟨A.length + 1, 0, 0⟩) (x ++ dI β y, shS A.length s2) := by
  obtain ⟨N, f2⟩ := f2
  refine ⟨N, fun m hm => ?_⟩
  have le := aNj tL pL (by omega) (by rw [enM, enL]) m 1 [] ⟨1, 0, 0⟩ y s2 (Nat.le_refl _) (by show 1 ≤ ZL.length; omega) (f2 m hm) c2 (by rw [a2])
  have lp := aOm ZM (PL ZM) 1 x m [] ⟨A.length + 1, 0, 0⟩
  rw [List.append_nil] at lp
  show (bC ZM (PL ZM) m).loop 1 x ⟨A.length + 1, 0, 0⟩ = _
  rw [lp]
  have hs : shS A.length ⟨1, 0, 0⟩ = ⟨A.length + 1, 0, 0⟩ := by
   unfold shS
   simp only [Nat.add_comm]
  rw [hs] at le
  have le : (bC ZM (PL ZM) m).loop 1 [] ⟨A.length + 1, 0, 0⟩ = some (dI β y, shS A.length s2) := le
  rw [le]
  rfl
 have hels : isF ZM (A.length + 1) 5 jJ = false := by
  cases hB : B with
  | nil =>
   have e3 := enM
   rw [hB] at e3
   have e3 : aC ZM (0 + 1 + A.length) = shZ β sL := e3
   unfold isF
   rw [show A.length + 1 = 0 + 1 + A.length by omega, e3]
   show (decide (sL.k = 5) && _) = false
   rw [hL.1]
   rfl
  | cons b1 B1 =>
   cases hq : isF ZM (A.length + 1) 5 jJ with
   | false => rfl
   | true =>
    exfalso
    have hlB : B.length = B1.length + 1 := by rw [hB]; rfl
    have e3 := tkL 1 (Nat.le_refl _) (by omega)
    have hel : isF ZL 1 5 jJ = true := by
     unfold isF at hq ⊢
     rw [show A.length + 1 = 1 + A.length by omega, e3] at hq
     exact hq
    obtain ⟨N, f2⟩ := f2
    have f3 : bZ ZL (bC ZL (PL ZL) N) 1 [] ⟨1, 0, 0⟩ = some (y, s2) := f2 (N + 1) (by omega)
    unfold bZ at f3
    have hk : (aC ZL 1).k = 5 := aXg hel
    have hnb : isS ZL ⟨1, 0, 0⟩ 4 [125] = false := by
     unfold isS isF
     show (_ && (decide ((aC ZL 1).k = 4) && _)) = false
     rw [hk]
     rfl
    rw [hnb] at f3
    have f3 : (match (bC ZL (PL ZL) N).stmt 1 ⟨1, 0, 0⟩ with | some (x, s1) => (bC ZL (PL ZL) N).loop 1 ([] ++ [x]) s1 | none => none) = some (y, s2) := f3
    cases hst : (bC ZL (PL ZL) N).stmt 1 ⟨1, 0, 0⟩ with
    | none => rw [hst] at f3; cases f3
    | some q =>
     obtain ⟨x1, s3⟩ := q
     rw [hst] at f3
     cases N with
     | zero => cases hst
     | succ N =>
      have hl1 : (⟨1, 0, 0⟩ : Sr).a ≤ ZL.length := by show 1 ≤ ZL.length; omega
      have m1 := (cB pL (N + 1)).stmt _ _ _ _ hl1 hst
      have m2 := (cB pL (N + 1)).loop _ _ _ _ _ m1.len f3
      obtain ⟨x2, a3, h3⟩ := aKw pL hl1 hel (f := bC ZL (PL ZL) N) (d := 1) hst (m2.fine c2)
      exact aSp hel h3
 have tK : TokS 0 (A.length + 1) 0 0 ZK ZM (PL ZK) (PL ZM) := by
  refine ⟨fun i _ hi => by rw [sh0]; exact tkK i hi, hels, fun a x a' _ e ha hst => ?_⟩
  have hm := (pK.ok a x a' (aHd e) e).1
  exact aOr (lo := 0) (k := 0) (fun i _ hi => by rw [sh0]; exact tkK i (by omega)) (by rw [Nat.add_zero, tkK a' ha]; exact hst) (Nat.zero_le _) e (by omega)
 exact aKh tK pK (by omega) ZK.length [] ⟨1, 0, 0⟩ x s1 (by omega) (by show 1 ≤ ZK.length; omega) rfl f1 c1 (by rw [a1]) _ g2
end Go.VM
end
section
/- Statements of two blocks in one: the kinds. -/
set_option maxRecDepth 100000
set_option linter.unusedVariables false
set_option linter.unusedSimpArgs false
namespace Go.VM
open Go.RowKit
def okN (W : Nat) : Sx → Prop
 | .mk k _ nm _ _ _ _ => k ≤ 6 ∧ nm.length ≤ W
section
variable {W : Nat} {l : List Tz} {P : Nat → R Ex}
theorem aLy (hW : ∀ i, (aC l i).t.length ≤ W) {f : Sf} {d : Nat} {s : Sr} {v : Sx} {s' : Sr} (e : eU l P f d s = some (v, s')) : okN W v := by
 have vo : ∀ k p nm s2, k ≤ 6 → nm.length ≤ W → okN W (lI l P k p nm s2).1 := fun k p nm s2 h1 h2 => ⟨h1, h2⟩
 unfold eU at e
 split at e
 ·split at e
  ·have v0 := vo 1 (aC l s.a).a (aC l (s.a + 1)).t (aO (aO s)) (by decide) (hW _)
   rw [Option.some.inj e] at v0; exact v0
  ·have v0 := vo 1 (aC l s.a).a [] (hJ l (aO s) 5) (by decide) (Nat.zero_le _)
   rw [Option.some.inj e] at v0; exact v0
 ·split at e
  ·split at e
   ·cases e; exact ⟨by decide, Nat.zero_le _⟩
   ·cases e; exact ⟨by decide, Nat.zero_le _⟩
  ·split at e
   ·split at e
    ·cases e
    ·split at e
     ·split at e
      ·cases e
      ·cases e; exact ⟨by decide, Nat.zero_le _⟩
     ·cases e; exact ⟨by decide, Nat.zero_le _⟩
   ·split at e
    ·split at e
     ·cases e
     ·cases e; exact ⟨by decide, Nat.zero_le _⟩
    ·split at e
     ·have v0 := vo 2 (aC l s.a).a (aC l s.a).t (aO s) (by decide) (hW _)
      rw [Option.some.inj e] at v0; exact v0
     ·cases e; exact ⟨by decide, Nat.zero_le _⟩
theorem aNu (hW : ∀ i, (aC l i).t.length ≤ W) : ∀ m d acc s v s', (∀ x ∈ acc, okN W x) → (bC l P m).loop d acc s = some (v, s') → ∀ x ∈ v, okN W x := by
 intro m
 induction m with
 | zero => intro d acc s v s' _ e; cases e
 | succ m ih =>
  intro d acc s v s' ha e
  have e : bZ l (bC l P m) d acc s = some (v, s') := e
  unfold bZ at e
  split at e
  ·cases e; exact ha
  ·split at e
   ·cases e; exact ha
   ·split at e
    ·rename_i x s1 hx
     refine ih d _ s1 v s' (fun y hy => ?_) e
     rcases List.mem_append.1 hy with h | h
     ·exact ha y h
     ·rw [List.mem_singleton] at h
      subst h
      cases m with
      | zero => cases hx
      | succ m => exact aLy hW hx
    ·cases e
theorem aKy (hW : ∀ i, (aC l i).t.length ≤ W) {m d : Nat} {s : Sr} {v : List Sx} {s' : Sr} (e : (bC l P m).block d s = some (v, s')) : ∀ x ∈ v, okN W x := by
 cases m with
 | zero => cases e
 | succ m =>
  have e : bW l (bC l P m) d s = some (v, s') := e
  unfold bW at e
  split at e
  ·cases e; intro x hx; cases hx
  ·exact aNu hW m _ [] _ v s' (fun x hx => by cases hx) e
theorem aNi {N : Nat} (h : ∀ t ∈ l, t.t.length ≤ N) (i : Nat) : (aC l i).t.length ≤ N := by
 unfold aC
 split
 ·rename_i t ht; exact h t (List.mem_of_getElem? ht)
 ·exact Nat.zero_le _
end
def kn : Sx → List Nat
 | .mk k _ nm _ _ _ _ => ([48 + k] ++ nm) ++ [32]
def eC (l : List Sx) : List Nat := (l.map kn).flatten
theorem vX (l m : List Sx) : eC (l ++ m) = eC l ++ eC m := by simp [eC]
theorem xD (b : Int) : ∀ l : List Sx, eC (dI b l) = eC l
 | [] => rfl
 | .mk k a nm h x bd e :: l => by
  have := xD b l
  simp only [dI, eC, List.map_cons, List.flatten_cons, aBv, kn] at this ⊢
  rw [this]
theorem xW (b : Int) : ∀ l : List Sx, (dI b l).length = l.length
 | [] => rfl
 | x :: l => by simp only [dI, List.length_cons, xW b l]
theorem lJ {W : Nat} : ∀ {l : List Sx}, (∀ x ∈ l, okN W x) → (eC l).length ≤ l.length * (W + 2)
 | [], _ => Nat.zero_le _
 | .mk k a nm h x bd e :: l, ho => by
  have h1 := ho (.mk k a nm h x bd e) (by simp)
  have h2 := lJ (l := l) fun y hy => ho y (by simp [hy])
  have h3 : nm.length ≤ W := h1.2
  simp only [eC, List.map_cons, List.flatten_cons, kn, List.length_append, List.length_cons, List.length_nil] at h2 ⊢
  rw [Nat.add_mul, Nat.one_mul]
  omega
theorem aUw {P : Program} {gl : List Nat} {nt : Nat} {tm : TM} {h : H} {x : RX} {k : IntKind} {n : Nat} (hx : rv gl tm x = some (.int k n)) (h1 : 1 ≤ n) (h2 : n ≤ 127) : bR P gl nt tm h (some (.cvr x)) (.v (.str [n])) := by
 refine pJ ?_ (fun _ e => by cases e)
 simp only [rl, hx]
 rw [show (Nat.ble 1 ((n : Int).toNat) && Nat.ble ((n : Int).toNat) 127) = true from by
  rw [Int.toNat_natCast, Bool.and_eq_true, Nat.ble_eq, Nat.ble_eq]; exact ⟨h1, h2⟩]
 rw [Int.toNat_natCast]
def aQk (l : List Sx) (i : Nat) : TM := [(0, .v (slC l)), (3, .v (.str (eC (l.take i)))), (4, .v (.int .i64 i))]
theorem aDw {QN : S → Prop} {QX : X → S → Prop} (W : Nat) (l : List Sx) (ho : ∀ x ∈ l, okN W x) (hb : l.length * (W + 2) ≤ 1000000000000) (hl : l.length < big)
  (h0 : ∀ tm, TellT tm [] [(3, .v (.str (eC l)))] → QX (.exit 0) (SL.toS ⟨tm, [], none, 1000, [], []⟩)) : ∀ (m i : Nat), i + m = l.length → ∀ tm, TellT tm [] (aQk l i) →
  WLr Go.Proofs.Tryd.prog [] ⟨Go.Proofs.Tryd.f19.ntmps, none, 19⟩ tR (SL.toS ⟨tm, [], none, 1000, [], []⟩) QN QX := by
 intro m
 induction m with
 | zero =>
  intro i hi tm htm
  have hi : i = l.length := hi
  subst hi
  refine WLr.weak (SW.bF htm .nil) ?_
  unfold tR aQk slC
  refine WLr.of ?_
  repeat (refine WR.seq ?_)
  refine WR.reg (WQ.aA [] 3 _ _ _ _ rfl ?_)
  rw [eY, List.length_map]
  refine WQ.aA [] 1 _ _ _ _ rfl ?_
  rw [show decide ((l.length : Int) < (l.length : Int)) = false from decide_eq_false (by omega)]
  refine WQ.aA [] 1000 _ _ _ _ rfl (WQ.aB ?_)
  repeat (refine WR.seq ?_)
  refine WR.aG rfl (WR.exit (h0 _ ?_))
  rw [List.take_length]
  repeat (first | exact .nil | refine .cons rfl (.v (VLe.refl _)) ?_)
 | succ m ih =>
  intro i hi tm htm
  obtain ⟨y, hy⟩ : ∃ y, l[i]? = some y := ⟨l[i], List.getElem?_eq_getElem (by omega)⟩
  have ho1 := ho y (List.mem_of_getElem? hy)
  have ht : l.take (i + 1) = l.take i ++ [y] := by
   rw [List.take_add_one, hy]; rfl
  have hlen := lJ (l := l.take i) fun x hx => ho x (List.mem_of_mem_take hx)
  have hlen2 : (l.take i).length * (W + 2) ≤ l.length * (W + 2) := Nat.mul_le_mul_right _ (by rw [List.length_take]; omega)
  have ihh := ih (i + 1) (by omega)
  unfold aQk at ihh
  rw [ht, vX] at ihh
  obtain ⟨yk, ya, yn, yh, ⟨xk, xa, xe, xn, xv, ⟨xtk, xta, xtp, xtn, xtl⟩, xs⟩, yb, ye⟩ := y
  obtain ⟨hk6, hnl⟩ := ho1
  have hW : W + 2 ≤ l.length * (W + 2) := Nat.le_mul_of_pos_left _ (by omega)
  rw [show eC [Sx.mk yk ya yn yh (.mk xk xa xe xn xv (.mk xtk xta xtp xtn xtl) xs) yb ye] = ([48 + yk] ++ yn) ++ [32] from by simp [eC, kn]] at ihh
  rw [show ∀ o : List Nat, o ++ (([48 + yk] ++ yn) ++ [32]) = ((o ++ [48 + yk]) ++ yn) ++ [32] from fun o => by simp] at ihh
  refine WLr.weak (SW.bF htm .nil) ?_
  unfold aQk slC
  generalize eC (l.take i) = o at ihh hlen ⊢
  unfold tR
  refine WLr.of ?_
  repeat (refine WR.seq ?_)
  refine WR.reg (WQ.aA [] 3 _ _ _ _ rfl ?_)
  rw [eY, List.length_map]
  refine WQ.aA [] 1 _ _ _ _ rfl ?_
  rw [show decide ((i : Int) < (l.length : Int)) = true from decide_eq_true (by omega)]
  refine WQ.aA [] 1000 _ _ _ _ rfl (WQ.aB ?_)
  repeat (refine WR.seq ?_)
  refine WR.aK rfl (WR.skip ?_)
  repeat (refine WR.seq ?_)
  refine WR.block ?_
  repeat (refine WR.seq ?_)
  refine WR.aW bE (DW.aA [] 3 _ _ _ _ _ _ rfl ?_)
  refine DW.kX rfl (fun h => mH (cs := jD (.mk yk ya yn yh (.mk xk xa xe xn xv (.mk xtk xta xtp xtn xtl) xs) yb ye)) rfl rfl (by rw [List.getElem?_map, hy]; rfl) rfl) rfl ?_
  refine DW.aA [] 3 _ _ _ _ _ _ rfl ?_
  rw [wrap64 (by omega) (by omega)]
  refine DW.aA [] 1 _ _ _ _ _ _ rfl ?_
  rw [(by decide : ∀ k, k < 7 → IntKind.i32.wrap ((48 : Int) + (k : Nat)) = ((48 + k : Nat) : Int)) yk (by omega)]
  refine DW.kX rfl (fun h => aUw rfl (by omega) (by omega)) rfl ?_
  refine DW.kX rfl (fun h => nN rfl rfl (by simp; unfold aDl; omega) h) rfl ?_
  refine DW.aA [] 2 _ _ _ _ _ _ rfl ?_
  refine DW.kX rfl (fun h => mH (cs := jD (.mk yk ya yn yh (.mk xk xa xe xn xv (.mk xtk xta xtp xtn xtl) xs) yb ye)) rfl rfl (by rw [List.getElem?_map, hy]; rfl) rfl) rfl ?_
  refine DW.aA [] 2 _ _ _ _ _ _ rfl ?_
  refine DW.kX rfl (fun h => nN rfl rfl (by simp; unfold aDl; omega) h) rfl ?_
  refine DW.kX rfl (fun h => nN rfl rfl (by simp; unfold aDl; omega) h) rfl ?_
  refine DW.aA [] 1000 _ _ _ _ _ _ rfl (DW.dN (by repeat (first | exact .nil | refine PendR.aI rfl ?_ | refine PendR.aH rfl ?_ | refine PendR.aD rfl ?_)) ?_)
  unfold aFz
  repeat (refine WR.seq ?_)
  refine WR.reg (WQ.aA [] 2 _ _ _ _ rfl ?_)
  rw [bS (by omega)]
  refine WQ.aA [] 1000 _ _ _ _ rfl (WQ.aB ?_)
  refine WIr.again (ihh _ ?_)
  unfold slC
  rw [eY]
  repeat (first | exact .nil | refine .cons rfl (.v (VLe.refl _)) ?_ | refine .cons rfl (.l _ _ rfl) ?_)
theorem vU (W : Nat) (l : List Sx) (ho : ∀ x ∈ l, okN W x) (hb : l.length * (W + 2) ≤ 1000000000000) (hl : l.length < big) : SCall Go.Proofs.Tryd.prog [] 19 [slC l] none ⟨1000, og [], []⟩ (.ret (.str (eC l))) none ⟨1000, og [], []⟩ := by
 refine SCall.listed (fn := Go.Proofs.Tryd.f19) (by kernel_rfl) aXs (by kernel_rfl) (by kernel_rfl) (Nat.le_refl _) rfl (trivial) trivial ?_
 unfold aWl
 repeat (refine WR.seq ?_)
 refine WR.reg (WQ.aA [] 1000 _ _ _ _ rfl (WQ.aB ?_))
 repeat (refine WR.seq ?_)
 refine WR.reg (WQ.aA [] 1000 _ _ _ _ rfl (WQ.aB ?_))
 repeat (refine WR.seq ?_)
 refine WR.reg (WQ.aA [] 1000 _ _ _ _ rfl (WQ.aB ?_))
 repeat (refine WR.seq ?_)
 refine WR.block (WR.loop (aDw W l ho hb hl (fun tm ht => ?_) l.length 0 (by omega) _ ?_))
 ·refine WR.weak (SW.bF ht .nil) ?_
  unfold aFy
  repeat (refine WR.seq ?_)
  refine WR.reg (WQ.aA [] 1000 _ _ _ _ rfl (WQ.aB ?_))
  exact WR.ret ⟨rfl, rfl, ⟨_, rfl, VLe.refl _⟩, fun _ _ => rfl⟩
 ·repeat (first | exact .nil | refine .cons rfl (.v (VLe.refl _)) ?_ | refine .cons rfl (.l _ _ rfl) ?_)
end Go.VM
end
section
/- Statements of two blocks in one: the law, walked. -/
set_option maxRecDepth 100000
set_option linter.unusedVariables false
set_option linter.unusedSimpArgs false
namespace Go.VM
open Go.RowKit
theorem zV (s : List Nat) (h8 : ∀ c ∈ s, c < 256) (hl : s.length < big) : ∃ (q : List Tz) (w c : Nat), SCall Go.Proofs.Tryd.prog [0] 12 [.str s] none ⟨1000, og tOl, []⟩ (.ret (.tup [lsV q, .agg (dg w c)])) none ⟨1000, og tOl, []⟩ ∧ (c = 0 → ∃ T, bV s = (T, w, 0) ∧ q = T.map toZ) := by
 have al := aOd s h8 hl
 unfold aBx at al
 refine ⟨(match (bV s).2.2 with | 0 => (bV s).1 | _ + 1 => []).map toZ, (bV s).2.1, (bV s).2.2, ?_, fun hc => ⟨(bV s).1, ?_, ?_⟩⟩
 ·rw [aCu] at al
  exact al
 ·rw [← hc]
 ·rw [hc]
theorem rR {Z : List Tz} (hl : Z.length < 19999) (hT : ∀ t ∈ Z, t.t.length < big) : ∃ (x : List Sx) (s1 : Sr) (vl : List (List V)) (n : Nat) (p c : Int), EvS (fun m => (bC Z (PL Z) m).block 0 ⟨0, 0, 0⟩) (x, s1) ∧ (∀ h, SCall Go.Proofs.Tryd.prog [0] 17 [lsV Z, .int .i64 0] none h (.ret (.tup [.lst vl .unk, .int .i64 n, .agg (dgX p c)])) none h) ∧
  (c = 0 → s1.c = 0 ∧ vl = dB x ∧ n = s1.a ∧ p = 0) ∧ (s1.c = 0 → c = 0) := by
 have hP := aGe Z hl hT
 obtain ⟨N, ⟨x, s1⟩, hN⟩ := aEa hP 0 (Nat.zero_le _)
 have sp := rQ hP (by omega) N 0 (Nat.zero_le _) (hN N (Nat.le_refl _))
 cases hf : cC s1 with
 | true =>
  have e : stV (x, s1) = .tup [.lst (dB x) .unk, .int .i64 s1.a, .agg (dgX 0 0)] := by unfold stV; rw [hf]
  rw [e] at sp
  exact ⟨x, s1, dB x, s1.a, 0, 0, ⟨N, hN⟩, sp, fun _ => ⟨eS.1 hf, rfl, rfl, rfl⟩, fun _ => rfl⟩
 | false =>
  have hc : s1.c ≠ 0 := of_decide_eq_false hf
  have e : stV (x, s1) = .tup [.lst [] (.ex 0), .int .i64 0, .agg (dgX s1.p s1.c)] := by unfold stV; rw [hf]
  rw [e] at sp
  refine ⟨x, s1, [], 0, s1.p, s1.c, ⟨N, hN⟩, fun h => (sp h).weak ?_, fun h => absurd h hc, id⟩
  exact VLe.tup (.cons (VLe.unk _ _) (.cons (VLe.refl _) (.cons (VLe.refl _) .nil)))
theorem oV {s : List Nat} {T : List Tk} {w : Nat} (h : bV s = (T, w, 0)) (hs : s.length ≤ 5000) : (T.map toZ).length ≤ 4001 ∧ (∀ t ∈ T.map toZ, t.t.length ≤ 5000) := by
 have g := aLp h
 refine ⟨by rw [List.length_map]; exact aLw s _ _ [] _ _ (by simp) h, fun t ht => ?_⟩
 obtain ⟨i, hi⟩ := List.mem_iff_getElem?.1 ht
 have hlt := (List.getElem?_eq_some_iff.1 hi).1
 rcases Nat.lt_or_ge (i + 1) (T.map toZ).length with h | h
 ·have := (g.tok i t hi h).2.2.2; omega
 ·have := g.last t (by rw [show (T.map toZ).length - 1 = i by omega]; exact hi)
  rw [this]; exact Nat.zero_le _
theorem jb {a : List Nat} (h8 : ∀ c ∈ a, c < 256) : ∀ c ∈ jK a, c < 256 := by
 intro c hc
 simp only [jK, List.mem_cons, List.mem_append, List.not_mem_nil, or_false] at hc
 rcases hc with rfl | h | rfl | rfl
 ·decide
 ·exact h8 c h
 ·decide
 ·decide
theorem jbM {a b : List Nat} (h8 : ∀ c ∈ a, c < 256) (hb : ∀ c ∈ b, c < 256) : ∀ c ∈ jM a b, c < 256 := by
 intro c hc
 simp only [jM, List.mem_cons, List.mem_append, List.not_mem_nil, or_false] at hc
 rcases hc with rfl | h | rfl | h | rfl | rfl
 ·decide
 ·exact h8 c h
 ·decide
 ·exact hb c h
 ·decide
 ·decide
theorem aCp {a b : List Nat} {TK TL TM : List Tk} {u v w : Nat} (hK : bV (jK a) = (TK, u, 0)) (hL : bV (jK b) = (TL, v, 0)) (hM : bV (jM a b) = (TM, w, 0))
  (pK : ParseOk (TK.map toZ) (PL (TK.map toZ))) (pL : ParseOk (TL.map toZ) (PL (TL.map toZ))) {x y : List Sx} {s1 s2 : Sr}
  (e1 : EvS (fun m => (bC (TK.map toZ) (PL (TK.map toZ)) m).block 0 ⟨0, 0, 0⟩) (x, s1)) (c1 : s1.c = 0) (a1 : s1.a + 1 = (TK.map toZ).length)
  (e2 : EvS (fun m => (bC (TL.map toZ) (PL (TL.map toZ)) m).block 0 ⟨0, 0, 0⟩) (y, s2)) (c2 : s2.c = 0) (a2 : s2.a + 1 = (TL.map toZ).length) :
  ∃ (β : Int) (s3 : Sr), EvS (fun m => (bC (TM.map toZ) (PL (TM.map toZ)) m).block 0 ⟨0, 0, 0⟩) (x ++ dI β y, s3) ∧ s3.c = 0 ∧ s3.a + 1 = (TM.map toZ).length := by
 obtain ⟨q, g1, rfl⟩ := wW hK
 obtain ⟨p, g2, rfl⟩ := wW hL
 obtain ⟨q', p', g3, g4, rfl⟩ := aJy hM
 rw [g1] at g3
 cases g3
 rw [g2] at g4
 cases g4
 have fK : (t0K :: (q.map (shK 1) ++ [⟨4, a.length + 2, a.length + 3, [125]⟩, kP (jK a)])).map toZ = (toZ t0K :: (q.map (shK 1)).map toZ) ++ [toZ ⟨4, a.length + 2, a.length + 3, [125]⟩, toZ (kP (jK a))] := by simp
 have fL : (t0K :: (p.map (shK 1) ++ [⟨4, b.length + 2, b.length + 3, [125]⟩, kP (jK b)])).map toZ = (toZ t0K :: (p.map (shK 1)).map toZ) ++ [toZ ⟨4, b.length + 2, b.length + 3, [125]⟩, toZ (kP (jK b))] := by simp
 have fM : (t0K :: (q.map (shK 1) ++ (p.map (shK (a.length + 2)) ++ [⟨4, a.length + b.length + 3, a.length + b.length + 4, [125]⟩, kP (jM a b)]))).map toZ = (toZ t0K :: (q.map (shK 1)).map toZ) ++ (((p.map (shK 1)).map toZ).map (shZ ((a.length + 1 : Nat) : Int)) ++ [shZ ((a.length + 1 : Nat) : Int) (toZ ⟨4, b.length + 2, b.length + 3, [125]⟩), toZ (kP (jM a b))]) := by
  have h1 : (p.map (shK (a.length + 2))).map toZ = ((p.map (shK 1)).map toZ).map (shZ ((a.length + 1 : Nat) : Int)) := by
   rw [List.map_map, List.map_map, List.map_map]
   congr 1
   funext t
   simp only [Function.comp, toZ, shK, shZ]
   congr 1 <;> omega
  have h2 : toZ ⟨4, a.length + b.length + 3, a.length + b.length + 4, [125]⟩ = shZ ((a.length + 1 : Nat) : Int) (toZ ⟨4, b.length + 2, b.length + 3, [125]⟩) := by
   simp only [toZ, shZ]
   congr 1 <;> omega
  rw [← h1, ← h2]
  simp
 rw [fK] at pK e1 a1
 rw [fL] at pL e2 a2
 rw [fM]
 refine ⟨((a.length + 1 : Nat) : Int), _, aLn ((q.map (shK 1)).map toZ) ((p.map (shK 1)).map toZ) (toZ t0K) _ _ _ _ _ _ ⟨rfl, rfl⟩ ⟨rfl, rfl⟩ ⟨rfl, rfl⟩ pK pL e1 c1 ?_ e2 c2 ?_, c2, ?_⟩
 ·simp at a1 ⊢; omega
 ·simp at a2 ⊢; omega
 ·simp [shS] at a2 ⊢; omega
end Go.VM
end
section
/- Statements of two blocks in one: the law. -/
set_option maxRecDepth 100000
set_option linter.unusedVariables false
set_option linter.unusedSimpArgs false
namespace Go.VM
open Go.RowKit
theorem aEr (a b : List Nat) (ha : ∀ c ∈ a, c < 256) (hb : ∀ c ∈ b, c < 256) :
  SCall Go.Proofs.Tryd.prog [0] 9 [.str a, .str b] none ⟨1000, og tOl, []⟩ (.ret (.bool true)) none ⟨1000, og tOl, []⟩ := by
 refine SCall.listed (fn := Go.Proofs.Tryd.f9) (by kernel_rfl) bAc (by kernel_rfl) (by kernel_rfl) (Nat.le_refl _) rfl ((by exact ⟨qD, trivial⟩)) trivial ?_
 unfold rc9
 repeat (refine WR.seq ?_)
 refine WR.reg (WQ.aA [] 1000 _ _ _ _ rfl (WQ.aB ?_))
 repeat (refine WR.seq ?_)
 refine WR.reg (WQ.aE rfl rfl rfl rfl rfl aJb .base rfl ?_)
 refine WQ.aA [] 1000 _ _ _ _ rfl (WQ.aB ?_)
 repeat (refine WR.seq ?_)
 refine WR.reg (WQ.aA [] 3 _ _ _ _ rfl ?_)
 by_cases h1 : a.length > 2000
 ·rw [show decide ((a.length : Int) > 2000) = true from decide_eq_true (by omega)]
  refine WQ.aA [] 1000 _ _ _ _ rfl (WQ.aB ?_)
  repeat (refine WR.seq ?_)
  refine WR.aK rfl ?_
  repeat (refine WR.seq ?_)
  refine WR.reg (WQ.aA [] 1000 _ _ _ _ rfl (WQ.aB ?_))
  exact WR.ret ⟨rfl, rfl, ⟨_, rfl, VLe.refl _⟩, fun _ _ => rfl⟩
 rw [show decide ((a.length : Int) > 2000) = false from decide_eq_false (by omega)]
 refine WQ.aA [] 4 _ _ _ _ rfl ?_
 by_cases h2 : b.length > 2000
 ·rw [show decide ((b.length : Int) > 2000) = true from decide_eq_true (by omega)]
  refine WQ.aA [] 1000 _ _ _ _ rfl (WQ.aB ?_)
  repeat (refine WR.seq ?_)
  refine WR.aK rfl ?_
  repeat (refine WR.seq ?_)
  refine WR.reg (WQ.aA [] 1000 _ _ _ _ rfl (WQ.aB ?_))
  exact WR.ret ⟨rfl, rfl, ⟨_, rfl, VLe.refl _⟩, fun _ _ => rfl⟩
 rw [show decide ((b.length : Int) > 2000) = false from decide_eq_false (by omega)]
 refine WQ.aA [] 1000 _ _ _ _ rfl (WQ.aB ?_)
 repeat (refine WR.seq ?_)
 refine WR.aG rfl (WR.skip ?_)
 have lK : (jK a).length = a.length + 3 := by simp [jK]
 have lL : (jK b).length = b.length + 3 := by simp [jK]
 have lM : (jM a b).length = a.length + b.length + 4 := by simp [jM]; omega
 obtain ⟨qK, wK, cK, alK, okK⟩ := zV (jK a) (jb ha) (by unfold big; omega)
 obtain ⟨qL, wL, cL, alL, okL⟩ := zV (jK b) (jb hb) (by unfold big; omega)
 obtain ⟨qM, wM, cM, alM, okM⟩ := zV (jM a b) (jbM ha hb) (by unfold big; omega)
 repeat (refine WR.seq ?_)
 refine WR.reg (WQ.aA [] 1 _ _ _ _ rfl ?_)
 refine WQ.bQ rfl rfl rfl (jY rfl rfl (by simp; unfold lim; omega) _) rfl ?_
 refine WQ.bQ rfl rfl rfl (jY rfl rfl (by simp; unfold lim; omega) _) rfl ?_
 refine WQ.aE rfl rfl rfl rfl rfl (SCall.fD alK _) .base rfl ?_
 refine WQ.aA [] 1000 _ _ _ _ rfl (WQ.aB ?_)
 repeat (refine WR.seq ?_)
 refine WR.reg (WQ.aA [] 1 _ _ _ _ rfl ?_)
 refine WQ.bQ rfl rfl rfl (jY rfl rfl (by simp; unfold lim; omega) _) rfl ?_
 refine WQ.bQ rfl rfl rfl (jY rfl rfl (by simp; unfold lim; omega) _) rfl ?_
 refine WQ.aE rfl rfl rfl rfl rfl (SCall.fD alL _) .base rfl ?_
 refine WQ.aA [] 1000 _ _ _ _ rfl (WQ.aB ?_)
 repeat (refine WR.seq ?_)
 refine WR.reg (WQ.aA [] 1 _ _ _ _ rfl ?_)
 refine WQ.bQ rfl rfl rfl (jY rfl rfl (by simp; unfold lim; omega) _) rfl ?_
 refine WQ.bQ rfl rfl rfl (jY rfl rfl (by simp; unfold lim; omega) _) rfl ?_
 refine WQ.aA [] 1 _ _ _ _ rfl ?_
 refine WQ.bQ rfl rfl rfl (jY rfl rfl (by simp; unfold lim; omega) _) rfl ?_
 refine WQ.bQ rfl rfl rfl (jY rfl rfl (by simp; unfold lim; omega) _) rfl ?_
 rw [show ((([123] ++ a) ++ [10]) ++ b) ++ [10, 125] = jM a b from by simp [jM]]
 refine WQ.aE rfl rfl rfl rfl rfl (SCall.fD alM _) .base rfl ?_
 refine WQ.aA [] 1000 _ _ _ _ rfl (WQ.aB ?_)
 repeat (refine WR.seq ?_)
 refine WR.reg (WQ.aA [] 2 _ _ _ _ rfl ?_)
 refine WQ.aA [] 1 _ _ _ _ rfl ?_
 by_cases k1 : cK = 0
 rotate_left
 ·rw [show decide ((cK : Int) = 0) = false from decide_eq_false (by omega)]
  refine WQ.aA [] 1000 _ _ _ _ rfl (WQ.aB ?_)
  repeat (refine WR.seq ?_)
  refine WR.aK rfl ?_
  repeat (refine WR.seq ?_)
  refine WR.reg (WQ.aA [] 1000 _ _ _ _ rfl (WQ.aB ?_))
  exact WR.ret ⟨rfl, rfl, ⟨_, rfl, VLe.refl _⟩, fun _ _ => rfl⟩
 rw [show decide ((cK : Int) = 0) = true from decide_eq_true (by omega)]
 refine WQ.aA [] 4 _ _ _ _ rfl ?_
 by_cases k2 : cL = 0
 rotate_left
 ·rw [show decide ((cL : Int) = 0) = false from decide_eq_false (by omega)]
  refine WQ.aA [] 1000 _ _ _ _ rfl (WQ.aB ?_)
  repeat (refine WR.seq ?_)
  refine WR.aK rfl ?_
  repeat (refine WR.seq ?_)
  refine WR.reg (WQ.aA [] 1000 _ _ _ _ rfl (WQ.aB ?_))
  exact WR.ret ⟨rfl, rfl, ⟨_, rfl, VLe.refl _⟩, fun _ _ => rfl⟩
 rw [show decide ((cL : Int) = 0) = true from decide_eq_true (by omega)]
 refine WQ.aA [] 5 _ _ _ _ rfl ?_
 by_cases k3 : cM = 0
 rotate_left
 ·rw [show decide ((cM : Int) = 0) = false from decide_eq_false (by omega)]
  refine WQ.aA [] 1000 _ _ _ _ rfl (WQ.aB ?_)
  repeat (refine WR.seq ?_)
  refine WR.aK rfl ?_
  repeat (refine WR.seq ?_)
  refine WR.reg (WQ.aA [] 1000 _ _ _ _ rfl (WQ.aB ?_))
  exact WR.ret ⟨rfl, rfl, ⟨_, rfl, VLe.refl _⟩, fun _ _ => rfl⟩
 rw [show decide ((cM : Int) = 0) = true from decide_eq_true (by omega)]
 refine WQ.aA [] 1000 _ _ _ _ rfl (WQ.aB ?_)
 repeat (refine WR.seq ?_)
 refine WR.aG rfl (WR.skip ?_)
 clear alK alL alM
 obtain ⟨TK, tK, rfl⟩ := okK k1
 obtain ⟨TL, tL, rfl⟩ := okL k2
 obtain ⟨TM, tM, rfl⟩ := okM k3
 have gK := oV tK (by omega)
 have gL := oV tL (by omega)
 have gM := oV tM (by omega)
 have wt : ∀ {Z : List Tz}, (∀ t ∈ Z, t.t.length ≤ 5000) → ∀ t ∈ Z, t.t.length < big := fun h t ht => Nat.lt_of_le_of_lt (h t ht) (by decide)
 have pK := aGe _ (by omega) (wt gK.2)
 have pL := aGe _ (by omega) (wt gL.2)
 obtain ⟨x, s1, vl1, n1, p1, c1, ev1, sp1, ok1, _⟩ := rR (by omega) (wt gK.2)
 obtain ⟨y, s2, vl2, n2, p2, c2, ev2, sp2, ok2, _⟩ := rR (by omega) (wt gL.2)
 obtain ⟨z, s3, vl3, n3, p3, c3, ev3, sp3, ok3, kc3⟩ := rR (by omega) (wt gM.2)
 have jt := fun e1 q1 e2 q2 => aCp tK tL tM pK pL ev1 e1 q1 ev2 e2 q2
 have bd : ∀ {Z : List Tz} {v : List Sx} {s' : Sr}, Z.length ≤ 4001 → (∀ t ∈ Z, t.t.length ≤ 5000) → EvS (fun m => (bC Z (PL Z) m).block 0 ⟨0, 0, 0⟩) (v, s') → s'.c = 0 → v.length ≤ 4001 ∧ ∀ x ∈ v, okN 5000 x := by
  intro Z v s' hZ ht ⟨N, e⟩ hc
  have e := e N (Nat.le_refl _)
  have b1 := (aGs (aGe Z (by omega) (wt ht)) (aZi Z) N).block _ _ _ _ (Nat.zero_le _) e hc
  exact ⟨by omega, aKy (aNi ht) e⟩
 have gK1 := gK.1; have gL1 := gL.1; have gM1 := gM.1
 have gK2 := gK.2; have gL2 := gL.2; have gM2 := gM.2
 generalize TK.map toZ = ZK at *
 generalize TL.map toZ = ZL at *
 generalize TM.map toZ = ZM at *
 repeat (refine WR.seq ?_)
 refine WR.reg (WQ.aA [] 1 _ _ _ _ rfl ?_)
 refine WQ.aE rfl rfl rfl rfl rfl (sp1 _) .base rfl ?_
 refine WQ.aA [] 1000 _ _ _ _ rfl (WQ.aB ?_)
 repeat (refine WR.seq ?_)
 refine WR.reg (WQ.aA [] 1 _ _ _ _ rfl ?_)
 refine WQ.aE rfl rfl rfl rfl rfl (sp2 _) .base rfl ?_
 refine WQ.aA [] 1000 _ _ _ _ rfl (WQ.aB ?_)
 repeat (refine WR.seq ?_)
 refine WR.reg (WQ.aA [] 2 _ _ _ _ rfl ?_)
 refine WQ.aA [] 1 _ _ _ _ rfl ?_
 by_cases d1 : c1 = 0
 rotate_left
 ·rw [show decide (c1 = 0) = false from decide_eq_false d1]
  refine WQ.aA [] 1000 _ _ _ _ rfl (WQ.aB ?_)
  repeat (refine WR.seq ?_)
  refine WR.aK rfl ?_
  repeat (refine WR.seq ?_)
  refine WR.reg (WQ.aA [] 1000 _ _ _ _ rfl (WQ.aB ?_))
  exact WR.ret ⟨rfl, rfl, ⟨_, rfl, VLe.refl _⟩, fun _ _ => rfl⟩
 rw [show decide (c1 = 0) = true from decide_eq_true d1]
 refine WQ.aA [] 4 _ _ _ _ rfl ?_
 by_cases d2 : c2 = 0
 rotate_left
 ·rw [show decide (c2 = 0) = false from decide_eq_false d2]
  refine WQ.aA [] 1000 _ _ _ _ rfl (WQ.aB ?_)
  repeat (refine WR.seq ?_)
  refine WR.aK rfl ?_
  repeat (refine WR.seq ?_)
  refine WR.reg (WQ.aA [] 1000 _ _ _ _ rfl (WQ.aB ?_))
  exact WR.ret ⟨rfl, rfl, ⟨_, rfl, VLe.refl _⟩, fun _ _ => rfl⟩
 rw [show decide (c2 = 0) = true from decide_eq_true d2]
 obtain ⟨f1, f2, f3, f4⟩ := ok1 d1
 obtain ⟨h3, h4, h5, h6⟩ := ok2 d2
 have i1 : 1 ≤ ZK.length := by
  obtain ⟨N, e⟩ := ev1
  have q := (cB pK N).block _ _ _ _ (Nat.zero_le _) (e N (Nat.le_refl _))
  have q1 : 0 < s1.a := q.lt f1
  have := q.len
  omega
 have i2 : 1 ≤ ZL.length := by
  obtain ⟨N, e⟩ := ev2
  have q := (cB pL N).block _ _ _ _ (Nat.zero_le _) (e N (Nat.le_refl _))
  have q1 : 0 < s2.a := q.lt h3
  have := q.len
  omega
 refine WQ.aA [] 5 _ _ _ _ rfl ?_
 rw [List.length_map]
 refine WQ.aA [] 1 _ _ _ _ rfl ?_
 rw [nE i1 (by unfold big; omega)]
 refine WQ.aA [] 1 _ _ _ _ rfl ?_
 by_cases j1 : n1 + 1 = ZK.length
 rotate_left
 ·rw [show decide ((n1 : Int) = ((ZK.length - 1 : Nat) : Int)) = false from decide_eq_false (by omega)]
  refine WQ.aA [] 1000 _ _ _ _ rfl (WQ.aB ?_)
  repeat (refine WR.seq ?_)
  refine WR.aK rfl ?_
  repeat (refine WR.seq ?_)
  refine WR.reg (WQ.aA [] 1000 _ _ _ _ rfl (WQ.aB ?_))
  exact WR.ret ⟨rfl, rfl, ⟨_, rfl, VLe.refl _⟩, fun _ _ => rfl⟩
 rw [show decide ((n1 : Int) = ((ZK.length - 1 : Nat) : Int)) = true from decide_eq_true (by omega)]
 refine WQ.aA [] 5 _ _ _ _ rfl ?_
 rw [List.length_map]
 refine WQ.aA [] 1 _ _ _ _ rfl ?_
 rw [nE i2 (by unfold big; omega)]
 refine WQ.aA [] 1 _ _ _ _ rfl ?_
 by_cases j2 : n2 + 1 = ZL.length
 rotate_left
 ·rw [show decide ((n2 : Int) = ((ZL.length - 1 : Nat) : Int)) = false from decide_eq_false (by omega)]
  refine WQ.aA [] 1000 _ _ _ _ rfl (WQ.aB ?_)
  repeat (refine WR.seq ?_)
  refine WR.aK rfl ?_
  repeat (refine WR.seq ?_)
  refine WR.reg (WQ.aA [] 1000 _ _ _ _ rfl (WQ.aB ?_))
  exact WR.ret ⟨rfl, rfl, ⟨_, rfl, VLe.refl _⟩, fun _ _ => rfl⟩
 rw [show decide ((n2 : Int) = ((ZL.length - 1 : Nat) : Int)) = true from decide_eq_true (by omega)]
 refine WQ.aA [] 1000 _ _ _ _ rfl (WQ.aB ?_)
 repeat (refine WR.seq ?_)
 refine WR.aG rfl (WR.skip ?_)
 obtain ⟨β, s4, ev4, u1, u2⟩ := jt f1 (by omega) h3 (by omega)
 have eqz : (z, s3) = (x ++ dI β y, s4) := by
  obtain ⟨N, e⟩ := ev3
  obtain ⟨M, e'⟩ := ev4
  have q1 := e (max N M) (by omega)
  have q2 := e' (max N M) (by omega)
  exact Option.some.inj (q1.symm.trans q2)
 rw [Prod.mk.injEq] at eqz
 obtain ⟨rfl, rfl⟩ := eqz
 have d3 := kc3 u1
 obtain ⟨_, v2, v3, v4⟩ := ok3 d3
 have b1 := bd gK1 gK2 ev1 f1
 have b2 := bd gL1 gL2 ev2 h3
 have b3 := bd gM1 gM2 ev3 u1
 have kx := vU 5000 x b1.2 (by have := b1.1; omega) (by have := b1.1; unfold big; omega)
 have ky := vU 5000 y b2.2 (by have := b2.1; omega) (by have := b2.1; unfold big; omega)
 have kz := vU 5000 _ b3.2 (by have := b3.1; omega) (by have := b3.1; unfold big; omega)
 have kl1 := lJ b1.2
 have kl2 := lJ b2.2
 have bx1 := b1.1
 have by1 := b2.1
 rw [vX, xD] at kz
 subst d3
 subst v4
 subst f2
 subst h4
 subst v2
 have lz : (dB (x ++ dI β y)).length = x.length + y.length := by rw [eY, List.length_map, List.length_append, xW]
 unfold slC at kx ky kz
 generalize x ++ dI β y = zz at kz sp3 lz
 repeat (refine WR.seq ?_)
 refine WR.reg (WQ.aA [] 1 _ _ _ _ rfl ?_)
 refine WQ.aE rfl rfl rfl rfl rfl (sp3 _) .base rfl ?_
 refine WQ.aA [] 1000 _ _ _ _ rfl (WQ.aB ?_)
 repeat (refine WR.seq ?_)
 refine WR.reg (WQ.aA [] 10 _ _ _ _ rfl ?_)
 rw [List.length_map]
 refine WQ.aA [] 1 _ _ _ _ rfl ?_
 rw [nE (by omega) (by unfold big; omega)]
 refine WQ.aA [] 1 _ _ _ _ rfl ?_
 rw [show decide ((n3 : Int) = ((ZM.length - 1 : Nat) : Int)) = true from decide_eq_true (by omega)]
 refine WQ.aA [] 9 _ _ _ _ rfl ?_
 rw [show IntKind.i64.wrap (((dB x).length : Int) + ((dB y).length : Int)) = ((x.length + y.length : Nat) : Int) from by
  rw [eY, eY, List.length_map, List.length_map, wrap64 (by omega) (by omega)]; omega]
 refine WQ.aA [] 1 _ _ _ _ rfl ?_
 rw [show decide (((dB zz).length : Int) = ((x.length + y.length : Nat) : Int)) = true from decide_eq_true (by rw [lz])]
 refine WQ.aA [] 3 _ _ _ _ rfl ?_
 refine WQ.aE rfl rfl rfl rfl rfl (SCall.more (SCall.dY rfl kz (by exact ⟨⟨eJ _, trivial⟩, trivial⟩) trivial _)) .base rfl ?_
 refine WQ.aA [] 1 _ _ _ _ rfl ?_
 refine WQ.aE rfl rfl rfl rfl rfl (SCall.more (SCall.dY rfl kx (by exact ⟨⟨eJ _, trivial⟩, trivial⟩) trivial _)) .base rfl ?_
 refine WQ.aA [] 1 _ _ _ _ rfl ?_
 refine WQ.aE rfl rfl rfl rfl rfl (SCall.more (SCall.dY rfl ky (by exact ⟨⟨eJ _, trivial⟩, trivial⟩) trivial _)) .base rfl ?_
 refine WQ.bQ rfl rfl rfl (nN rfl rfl (by unfold aDl; omega) _) rfl ?_
 refine WQ.aA [] 1 _ _ _ _ rfl ?_
 rw [show decide (eC x ++ eC y = eC x ++ eC y) = true from decide_eq_true rfl]
 refine WQ.aA [] 1000 _ _ _ _ rfl (WQ.aB ?_)
 exact WR.ret ⟨rfl, rfl, ⟨_, rfl, VLe.refl _⟩, fun _ _ => rfl⟩
theorem aDx (a b : List Nat) (ha : ∀ c ∈ a, c < 256) (hb : ∀ c ∈ b, c < 256) : SCall Go.Proofs.Tryd.prog [0] 9 [.str a, .str b] none (Go.VM.hT 0 .u8 yT) (.ret (.bool true)) none (Go.VM.hT 0 .u8 yT) := aEr a b ha hb
end Go.VM
end
