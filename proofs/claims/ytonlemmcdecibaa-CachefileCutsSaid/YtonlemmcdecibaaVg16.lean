/- laid for this seat: VrStab3 VcOrd VtScan5 VtScan6 VcRch VcRel -/
import Derived.Test.YtonlemmcdecibaaVg15
import Derived.Test.YtonlemmcdecibaaVg08
import Derived.Test.YtonlemmcdecibaaVg12
import Derived.Test.YtonlemmcdecibaaVmR
section
/- The library's stable sort sorts: blocks, all of it; what the program keeps is what the document keeps. -/
set_option maxRecDepth 100000
set_option linter.unusedVariables false
set_option linter.unusedSimpArgs false
namespace Go.VM
theorem sink_ok (K : Nat → Int) (n : Nat) : ∀ (P : List Nat), P.length = n → ∀ (A B : List Nat) (y a i : Nat), A.length = a → a + n = i → Srt K P → (∀ p ∈ P, p < y) →
  ∃ M, sinkF K a i (A ++ (P ++ y :: B)) = A ++ (M ++ B) ∧ M.Perm (P ++ [y]) ∧ Srt K M := by
 induction n with
 | zero =>
  intro P h A B y a i ha hi _ _
  have : P = [] := List.eq_nil_of_length_eq_zero h
  subst this
  refine ⟨[y], ?_, List.Perm.refl _, List.pairwise_singleton _ _⟩
  cases i with
  | zero => simp [sinkF]
  | succ j =>
   unfold sinkF
   split
   ·split
    ·omega
    ·simp
   ·simp
 | succ n ih =>
  intro P h A B y a i ha hi sp hlt
  obtain ⟨P', p, rfl⟩ : ∃ P' p, P = P' ++ [p] := by
   rcases List.eq_nil_or_concat P with e | ⟨P', p, e⟩
   ·subst e; simp at h
   ·exact ⟨P', p, by simpa using e⟩
  have hl : P'.length = n := by simpa using h
  obtain ⟨j, rfl⟩ : ∃ j, i = j + 1 := ⟨i - 1, by omega⟩
  have sp' := (List.pairwise_append.1 sp).1
  have spp := (List.pairwise_append.1 sp).2.2
  have eq0 : A ++ (P' ++ [p] ++ y :: B) = (A ++ P') ++ p :: (y :: B) := by simp
  have eq1 : (A ++ P') ++ p :: (y :: B) = (A ++ P' ++ [p]) ++ y :: B := by simp
  rw [eq0]
  have e2 : ((A ++ P') ++ p :: (y :: B))[j]? = some p := get_at (by simp; omega)
  have e1 : ((A ++ P') ++ p :: (y :: B))[j + 1]? = some y := by rw [eq1]; exact get_at (by simp; omega)
  have e3 : (((A ++ P') ++ p :: (y :: B)).set (j + 1) p).set j y = A ++ (P' ++ y :: (p :: B)) := by
   rw [eq1, set_at p (by simp; omega)]
   have : (A ++ P' ++ [p]) ++ p :: B = (A ++ P') ++ p :: (p :: B) := by simp
   rw [this, set_at y (by simp; omega)]
   simp
  have hsk : sinkF K a (j + 1) ((A ++ P') ++ p :: (y :: B)) = if j + 1 > a ∧ K p < K y then sinkF K a j (A ++ (P' ++ y :: (p :: B))) else (A ++ P') ++ p :: (y :: B) := by
   rw [← e3]
   show (match ((A ++ P') ++ p :: (y :: B))[j]?, ((A ++ P') ++ p :: (y :: B))[j + 1]? with | some y', some x => if j + 1 > a ∧ K y' < K x then sinkF K a j ((((A ++ P') ++ p :: (y :: B)).set (j + 1) y').set j x) else (A ++ P') ++ p :: (y :: B) | _, _ => _) = _
   rw [e1, e2]
  rw [hsk]
  by_cases hk : K p < K y
  ·rw [if_pos ⟨by omega, hk⟩]
   obtain ⟨M', m1, m2, m3⟩ := ih P' hl A (p :: B) y a j ha (by omega) sp' (fun q hq => hlt q (by simp [hq]))
   refine ⟨M' ++ [p], by rw [m1]; simp, ?_, ?_⟩
   ·refine (List.Perm.append_right [p] m2).trans ?_
    rw [List.append_assoc, List.append_assoc]
    exact List.Perm.append_left P' List.perm_append_comm
   ·refine srt_app m3 (List.pairwise_singleton _ _) (fun x hx z hz => ?_)
    simp at hz; subst hz
    rcases List.mem_append.1 (m2.mem_iff.1 hx) with hx | hx
    ·exact spp x hx z (by simp)
    ·simp at hx; subst hx; exact .inl hk
  ·rw [if_neg (fun q => hk q.2)]
   refine ⟨P' ++ [p] ++ [y], by simp, List.Perm.refl _, ?_⟩
   have hr : Rk K p y := by have := hlt p (by simp); unfold Rk; omega
   refine srt_app sp (List.pairwise_singleton _ _) (fun x hx z hz => ?_)
   simp at hz; subst hz
   rcases List.mem_append.1 hx with hx | hx
   ·exact (spp x hx p (by simp)).trans hr
   ·simp at hx; subst hx; exact hr
abbrev Inc (l : List Nat) : Prop := l.Pairwise (· < ·)
theorem ins_ok (K : Nat → Int) (a : Nat) : ∀ (Q P A B : List Nat) (i : Nat), A.length = a → a + P.length = i → Srt K P → Inc Q → (∀ p ∈ P, ∀ q ∈ Q, p < q) →
  ∃ M, insG K a Q.length i (A ++ (P ++ (Q ++ B))) = A ++ (M ++ B) ∧ M.Perm (P ++ Q) ∧ Srt K M
 | [], P, A, B, i, _, _, sp, _, _ => ⟨P, by simp [insG], by simp, sp⟩
 | y :: Q, P, A, B, i, ha, hi, sp, inc, hlt => by
  obtain ⟨M1, m1, m2, m3⟩ := sink_ok K P.length P rfl A (Q ++ B) y a i ha hi sp (fun p hp => hlt p hp y (by simp))
  have inc' := List.pairwise_cons.1 inc
  obtain ⟨M, n1, n2, n3⟩ := ins_ok K a Q M1 A B (i + 1) ha (by rw [m2.length_eq]; simp; omega) m3 inc'.2 (fun p hp q hq => by
   rcases List.mem_append.1 (m2.mem_iff.1 hp) with hp | hp
   ·exact hlt p hp q (by simp [hq])
   ·simp at hp; subst hp; exact inc'.1 q hq)
  refine ⟨M, ?_, ?_, n3⟩
  ·show insG K a Q.length (i + 1) (sinkF K a i (A ++ (P ++ (y :: Q ++ B)))) = _
   have : A ++ (P ++ (y :: Q ++ B)) = A ++ (P ++ y :: (Q ++ B)) := by simp
   rw [this, m1]; exact n1
  ·refine n2.trans ((List.Perm.append_right Q m2).trans ?_)
   simp
theorem seg_ok (K : Nat → Int) (S A B : List Nat) (a b : Nat) (ha : A.length = a) (hb : a + S.length = b) (inc : Inc S) :
  ∃ M, insG K a (b - (a + 1)) (a + 1) (A ++ (S ++ B)) = A ++ (M ++ B) ∧ M.Perm S ∧ Srt K M := by
 cases S with
 | nil => exact ⟨[], by rw [show b - (a + 1) = 0 by simp at hb; omega]; simp [insG], List.Perm.refl _, List.Pairwise.nil⟩
 | cons x Q =>
  have h := List.pairwise_cons.1 inc
  obtain ⟨M, m1, m2, m3⟩ := ins_ok K a Q [x] A B (a + 1) ha rfl (List.pairwise_singleton _ _) h.2 (fun p hp q hq => by simp at hp; subst hp; exact h.1 q hq)
  refine ⟨M, ?_, m2, m3⟩
  rw [show b - (a + 1) = Q.length by simp at hb; omega]
  exact m1
inductive Blk (K : Nat → Int) (bs : Nat) : List Nat → List Nat → Prop where
 | nil : Blk K bs [] []
 | cons {P O Rs Os : List Nat} (h0 : 0 < P.length) (h1 : P.length ≤ bs) (h2 : P.length < bs → Rs = []) (hs : Srt K P) (hp : P.Perm O) (t : Blk K bs Rs Os) : Blk K bs (P ++ Rs) (O ++ Os)
theorem Blk.len {K : Nat → Int} {bs : Nat} {xs os : List Nat} (h : Blk K bs xs os) : xs.length = os.length := by
 induction h with
 | nil => rfl
 | cons _ _ _ _ hp _ ih => simp [hp.length_eq, ih]
theorem Blk.one {K : Nat → Int} {bs : Nat} {P O : List Nat} (h1 : P.length ≤ bs) (hs : Srt K P) (hp : P.Perm O) : Blk K bs P O := by
 cases P with
 | nil => rw [← List.Perm.nil_eq hp]; exact .nil
 | cons p P => simpa using Blk.cons (K := K) (bs := bs) (P := p :: P) (O := O) (Rs := []) (Os := []) (by simp) h1 (fun _ => rfl) hs hp .nil
theorem irow_ok (K : Nat → Int) (n : Nat) : ∀ (f a : Nat) (A R : List Nat), n < f + a → A.length = a → a + R.length = n → Inc R →
  ∃ T, insG K (irow K n f a (A ++ R)).1 (n - ((irow K n f a (A ++ R)).1 + 1)) ((irow K n f a (A ++ R)).1 + 1) (irow K n f a (A ++ R)).2 = A ++ T ∧ Blk K 20 T R := by
 intro f
 induction f with
 | zero => intro a A R h1 h2 h3; omega
 | succ f ih =>
  intro a A R hf ha hn inc
  by_cases h : a + 20 ≤ n
  ·have hl : (R.take 20).length = 20 := by rw [List.length_take]; omega
   obtain ⟨M, m1, m2, m3⟩ := seg_ok K (R.take 20) A (R.drop 20) a (a + 20) ha (by omega) (inc.sublist (List.take_sublist _ _))
   rw [List.take_append_drop] at m1
   have hM : M.length = 20 := by rw [m2.length_eq]; exact hl
   rw [show irow K n (f + 1) a (A ++ R) = irow K n f (a + 20) (insG K a (a + 20 - (a + 1)) (a + 1) (A ++ R)) from by simp only [irow, if_pos h], m1, ← List.append_assoc]
   obtain ⟨T, t1, t2⟩ := ih (a + 20) (A ++ M) (R.drop 20) (by omega) (by simp; omega) (by rw [List.length_drop]; omega) (inc.sublist (List.drop_sublist _ _))
   refine ⟨M ++ T, by rw [t1]; simp, ?_⟩
   have := Blk.cons (K := K) (bs := 20) (by omega) (by omega) (fun h => by omega) m3 m2 t2
   rwa [List.take_append_drop] at this
  ·rw [show irow K n (f + 1) a (A ++ R) = (a, A ++ R) from by simp only [irow, if_neg h]]
   obtain ⟨M, m1, m2, m3⟩ := seg_ok K R A [] a n ha hn inc
   simp only [List.append_nil] at m1
   refine ⟨M, m1, Blk.one (by rw [m2.length_eq]; omega) m3 m2⟩
theorem mrow_ok (K : Nat → Int) (n bs : Nat) (hb : 0 < bs) : ∀ (f a : Nat) (A R O : List Nat), n < f + a → A.length = a → a + R.length = n → Blk K bs R O → Inc O →
  ∃ T, (if (mrow K n bs f a (A ++ R)).1 + bs < n then symF K n (mrow K n bs f a (A ++ R)).1 ((mrow K n bs f a (A ++ R)).1 + bs) n (mrow K n bs f a (A ++ R)).2 else (mrow K n bs f a (A ++ R)).2) = A ++ T ∧ Blk K (2 * bs) T O := by
 intro f
 induction f with
 | zero => intro a A R O h1 h2 h3; omega
 | succ f ih =>
  intro a A R O hf ha hn blk inc
  cases blk with
  | nil =>
   have hna : a = n := by simpa using hn
   rw [show mrow K n bs (f + 1) a (A ++ []) = (a, A ++ []) from by simp only [mrow, if_neg (show ¬ a + 2 * bs ≤ n by omega)]]
   simp only
   rw [if_neg (by omega)]
   exact ⟨[], rfl, .nil⟩
  | @cons P O1 Rs Os h0 h1 h2 hs hp t =>
   cases t with
   | nil =>
    simp only [List.append_nil] at hn ⊢
    rw [show mrow K n bs (f + 1) a (A ++ P) = (a, A ++ P) from by simp only [mrow, if_neg (show ¬ a + 2 * bs ≤ n by omega)]]
    simp only
    rw [if_neg (by omega)]
    refine ⟨P, rfl, Blk.one (by omega) hs hp⟩
   | @cons P2 O2 Rs2 Os2 g0 g1 g2 gs gp t2 =>
    have hP : P.length = bs := by
     rcases Nat.lt_or_ge P.length bs with h | h
     ·have := h2 h
      have := congrArg List.length this
      rw [List.length_append, List.length_nil] at this; omega
     ·omega
    have incO : ∀ x ∈ P, ∀ y ∈ P2, x < y := fun x hx y hy => (List.pairwise_append.1 inc).2.2 x (hp.mem_iff.1 hx) y (by simp [gp.mem_iff.1 hy])
    obtain ⟨M, m1, m2, m3⟩ := symF_ok K n A P P2 Rs2 a (a + bs) (a + bs + P2.length) ha (by omega) rfl (by simp at hn; omega) h0 g0 hs gs incO
    have mp : M.Perm (O1 ++ O2) := m2.trans (hp.append gp)
    have hM : M.length = bs + P2.length := by rw [m2.length_eq]; simp; omega
    rcases Nat.lt_or_ge P2.length bs with hlt | hge
    ·have hR : Rs2 = [] := g2 hlt
     subst hR
     have hO : Os2 = [] := by exact List.eq_nil_of_length_eq_zero t2.len.symm
     subst hO
     simp only [List.append_nil] at hn m1 ⊢
     rw [show mrow K n bs (f + 1) a (A ++ (P ++ P2)) = (a, A ++ (P ++ P2)) from by simp only [mrow, if_neg (show ¬ a + 2 * bs ≤ n by simp at hn; omega)]]
     simp only
     rw [if_pos (by simp at hn; omega)]
     have hb' : a + bs + P2.length = n := by simp at hn; omega
     rw [hb'] at m1
     exact ⟨M, m1, Blk.one (by omega) m3 mp⟩
    ·have hP2 : P2.length = bs := by omega
     have hle : a + 2 * bs ≤ n := by simp at hn; omega
     rw [show a + bs + P2.length = a + 2 * bs by omega] at m1
     rw [show mrow K n bs (f + 1) a (A ++ (P ++ (P2 ++ Rs2))) = mrow K n bs f (a + 2 * bs) (symF K n a (a + bs) (a + 2 * bs) (A ++ (P ++ (P2 ++ Rs2)))) from by simp only [mrow, if_pos hle], m1, ← List.append_assoc]
     obtain ⟨T, t1, t3⟩ := ih (a + 2 * bs) (A ++ M) Rs2 Os2 (by omega) (by simp; omega) (by simp at hn; omega) t2 (List.pairwise_append.1 (List.pairwise_append.1 inc).2.1).2.1
     refine ⟨M ++ T, by rw [t1]; simp, ?_⟩
     have := Blk.cons (K := K) (bs := 2 * bs) (by omega) (by omega) (fun h => by omega) m3 mp t3
     rwa [List.append_assoc] at this
theorem passes_ok (K : Nat → Int) (n : Nat) : ∀ (f bs : Nat) (xs O : List Nat), n < f + bs → 0 < bs → xs.length = n → Blk K bs xs O → Inc O → (passes K n f bs xs).Perm O ∧ Srt K (passes K n f bs xs) := by
 have base : ∀ (bs : Nat) (xs O : List Nat), n ≤ bs → xs.length = n → Blk K bs xs O → xs.Perm O ∧ Srt K xs := by
  intro bs xs O h hl blk
  cases blk with
  | nil => exact ⟨List.Perm.refl _, List.Pairwise.nil⟩
  | @cons P O1 Rs Os h0 h1 h2 hs hp t =>
   have hR : Rs = [] := by
    rcases Nat.lt_or_ge P.length bs with g | g
    ·exact h2 g
    ·exact List.eq_nil_of_length_eq_zero (by simp at hl; omega)
   subst hR
   have hO : Os = [] := by exact List.eq_nil_of_length_eq_zero t.len.symm
   subst hO
   simpa using ⟨hp, hs⟩
 intro f
 induction f with
 | zero => intro bs xs O h h0 hl blk inc; exact base bs xs O (by omega) hl blk
 | succ f ih =>
  intro bs xs O h h0 hl blk inc
  by_cases hb : bs < n
  ·rw [show passes K n (f + 1) bs xs = passes K n f (2 * bs) (passF K n bs xs) from by simp only [passes, if_pos hb]]
   obtain ⟨T, t1, t2⟩ := mrow_ok K n bs h0 (n + 1) 0 [] xs O (by omega) rfl (by simpa using hl) blk inc
   have e : passF K n bs xs = T := by unfold passF; simpa using t1
   rw [e]
   exact ih (2 * bs) T O (by omega) (by omega) (by rw [t2.len, ← blk.len, hl]) t2 inc
  ·rw [show passes K n (f + 1) bs xs = xs from by simp only [passes, if_neg hb]]
   exact base bs xs O (by omega) hl blk
theorem stableF_ok (K : Nat → Int) (xs : List Nat) (inc : Inc xs) : (stableF K xs.length xs).Perm xs ∧ Srt K (stableF K xs.length xs) := by
 obtain ⟨T, t1, t2⟩ := irow_ok K xs.length (xs.length + 1) 0 [] xs (by omega) rfl (by simp) inc
 simp only [List.nil_append] at t1
 unfold stableF
 rw [t1]
 exact passes_ok K xs.length (xs.length + 1) 20 T xs (by omega) (by omega) t2.len t2 inc
theorem liveF_inc : ∀ (l : List EZ) (i : Nat), Inc (liveF l i)
 | [], _ => List.Pairwise.nil
 | e :: l, i => by
  unfold liveF
  split
  ·exact List.pairwise_cons.2 ⟨fun x hx => by have := (liveF_in l (i + 1) x hx).1; omega, liveF_inc l (i + 1)⟩
  ·exact liveF_inc l (i + 1)
end Go.VM
end
section
/- The order of what is kept. -/
set_option maxRecDepth 100000
set_option linter.unusedVariables false
set_option linter.unusedSimpArgs false
namespace Go.VM
def keyL (L : List EZ) (i : Nat) : List Nat := match L[i]? with | some e => e.k | none => []
def Told (L : List EZ) (i : Nat) : Prop := ∃ e, L[i]? = some e ∧ e.v = e.k ++ e.k
theorem keptG_keys (L : List EZ) (most : Int) : ∀ (ys : List Nat) (ks : List (List Nat)) (b : Int) (out : List Nat), (∀ y ∈ ys, Told L y) → ks = out.map (keyL L) → (keptG L most ys ks b out).map (keyL L) = ks ++ takeS most (ys.map (keyL L)) ks b
 | [], ks, b, out, _, hk => by simp [keptG, takeS, hk]
 | y :: ys, ks, b, out, h, hk => by
  obtain ⟨e, he, hv⟩ := h y (by simp)
  have hky : keyL L y = e.k := by unfold keyL; rw [he]
  have hsz : (sizeZ e : Int) = ((3 * e.k.length : Nat) : Int) := by unfold sizeZ; rw [hv, List.length_append]; omega
  have hlen : (out.length : Int) = (ks.length : Int) := by rw [hk, List.length_map]
  simp only [List.map_cons, hky]
  by_cases h1 : e.k ∈ ks
  ·rw [show keptG L most (y :: ys) ks b out = keptG L most ys ks b out from by simp only [keptG, he, if_pos h1], keptG_keys L most ys ks b out (fun z hz => h z (by simp [hz])) hk]
   simp only [takeS, if_pos h1]
  ·by_cases h2 : (out.length : Int) ≥ most ∨ (sizeZ e : Int) > b
   ·rw [show keptG L most (y :: ys) ks b out = out from by simp only [keptG, he, if_neg h1, if_pos h2]]
    have h3 : (ks.length : Int) ≥ most ∨ ((3 * e.k.length : Nat) : Int) > b := by rw [← hlen, ← hsz]; exact h2
    rw [show takeS most (e.k :: ys.map (keyL L)) ks b = [] from by simp only [takeS, if_neg h1, if_pos h3], List.append_nil, hk]
   ·rw [show keptG L most (y :: ys) ks b out = keptG L most ys (ks ++ [e.k]) (b - sizeZ e) (out ++ [y]) from by simp only [keptG, he, if_neg h1, if_neg h2]]
    have h3 : ¬ ((ks.length : Int) ≥ most ∨ ((3 * e.k.length : Nat) : Int) > b) := by rw [← hlen, ← hsz]; exact h2
    rw [keptG_keys L most ys (ks ++ [e.k]) (b - sizeZ e) (out ++ [y]) (fun z hz => h z (by simp [hz])) (by simp [hk, hky])]
    simp only [takeS, if_neg h1, if_neg h3, hsz, List.append_assoc, List.singleton_append]
theorem kept_keys {L : List EZ} {most bytes : Int} (h : ∀ y ∈ orderF L, Told L y) : (keptF L most bytes).map (keyL L) = keepK most bytes ((orderF L).map (keyL L)) := by
 have := keptG_keys L most (orderF L) [] bytes [] h rfl
 rw [List.nil_append] at this
 exact this
theorem orderF_ok (L : List EZ) : (orderF L).Perm (liveF L 0) ∧ Srt (lastK L) (orderF L) := stableF_ok (lastK L) (liveF L 0) (liveF_inc L 0)
theorem liveF_mem : ∀ {l : List EZ} {i x : Nat}, x ∈ liveF l i ↔ ∃ j e, x = i + j ∧ l[j]? = some e ∧ e.live = true
 | [], i, x => by simp [liveF]
 | a :: l, i, x => by
  unfold liveF
  have ih := @liveF_mem l (i + 1) x
  constructor
  ·intro h
   have h2 : (x = i ∧ a.live = true) ∨ x ∈ liveF l (i + 1) := by
    by_cases ha : a.live = true
    ·rw [if_pos ha] at h
     rcases List.mem_cons.1 h with h | h
     ·exact .inl ⟨h, ha⟩
     ·exact .inr h
    ·rw [if_neg ha] at h; exact .inr h
   rcases h2 with ⟨h3, h4⟩ | h3
   ·exact ⟨0, a, by omega, rfl, h4⟩
   ·obtain ⟨j, e, q1, q2, q3⟩ := ih.1 h3
    exact ⟨j + 1, e, by omega, by simpa using q2, q3⟩
  ·rintro ⟨j, e, q1, q2, q3⟩
   cases j with
   | zero =>
    simp at q2; subst q2
    rw [if_pos q3, q1]; simp
   | succ j =>
    have h3 := ih.2 ⟨j, e, by omega, by simpa using q2, q3⟩
    split
    ·exact List.mem_cons_of_mem _ h3
    ·exact h3
theorem mem_order {L : List EZ} {x : Nat} : x ∈ orderF L ↔ ∃ e, L[x]? = some e ∧ e.live = true := by
 rw [(orderF_ok L).1.mem_iff, liveF_mem]
 constructor
 ·rintro ⟨j, e, q1, q2, q3⟩
  have : x = j := by omega
  subst this; exact ⟨e, q2, q3⟩
 ·rintro ⟨e, q2, q3⟩
  exact ⟨x, e, by omega, q2, q3⟩
theorem Inc.nodup' {l : List Nat} (h : Inc l) : l.Nodup := h.imp (fun h => by omega)
theorem order_nodup (L : List EZ) : (orderF L).Nodup := (orderF_ok L).1.nodup_iff.2 (liveF_inc L 0).nodup'
theorem order_of {L : List EZ} {O : List Nat} (hn : O.Nodup) (hm : ∀ x, x ∈ O ↔ ∃ e, L[x]? = some e ∧ e.live = true) (hs : Srt (lastK L) O) : orderF L = O := by
 refine srt_unique (orderF_ok L).2 hs ?_
 refine (List.perm_ext_iff_of_nodup (order_nodup L) hn).2 (fun x => ?_)
 rw [mem_order, hm]
end Go.VM
end
section
/- The cache's file: Scan over any memory. -/
set_option maxRecDepth 100000
set_option linter.unusedVariables false
set_option linter.unusedSimpArgs false
namespace Go.VM
open Go.RowKit
theorem SCall.le {P : Program} {gl : List Nat} {f : FuncId} {args : List V} {u u' : Option AMode} {h h' : H} {v v2 : V} (s : SCall P gl f args u h (.ret v) u' h') (hv : ∀ E x, AR E v x → AR E v2 x) : SCall P gl f args u h (.ret v2) u' h' := by
 refine ⟨s.lc, s.fn, fun E F w0 w args' kind cs hF m g ra hu => ?_⟩
 obtain ⟨E', F', w', cs', fr', a1, a2, a3, a4, a5, a6, a7, a8, a9, a10, a11, a12, z1, fnr, x, z2, z3, z4⟩ := s.run E F w0 w args' kind cs hF m g ra hu
 exact ⟨E', F', w', cs', fr', a1, a2, a3, a4, a5, a6, a7, a8, a9, a10, a11, a12, z1, fnr, x, z2, z3, hv _ _ z4⟩
def scanV (b : List Nat) : V := .tup [.lst ((scanR b).1.l.map encE) .unk, .int .i64 (scanR b).1.good]
theorem encEs_in {D : Nat → Prop} (l : List Ent) : Inss D (l.map encE) := Inss_map fun x _ => ⟨trivial, trivial, trivial, trivial, trivial⟩
theorem scan_core2 (b : List Nat) (hlen : b.length ≤ 700000000) (h8 : ∀ x ∈ b, x < 256) :
  SCall Go.Proofs.Try.prog [] 12 [.str b] none ⟨1000, og [], []⟩ (.ret (scanV b)) none ⟨nxF (scanR b).1.l, og [], []⟩ := by
 obtain ⟨lp, hc⟩ := scan_core b hlen h8
 unfold scanV
 generalize scanR b = R at hc
 obtain ⟨⟨l, good, last⟩, a, w, j⟩ := R
 simp only at hc ⊢
 cases l with
 | nil =>
  refine (hc.le (v2 := .tup [.lst [] .unk, .int .i64 good]) (fun E x hx => ?_)).drop rfl rfl (fun c o ho => by cases ho) (fun c hc => ?_)
  ·cases hx with
   | tup _ cs hcs =>
    refine .tup _ _ ?_
    generalize cs.toList = q at hcs
    cases hcs with
    | cons _ v1 _ l1 r1 t1 =>
     refine .cons _ _ _ _ ?_ t1
     cases r1 with
     | lst0 _ a cap hh => exact .lst0 _ a cap trivial
  ·have hc : c < 1000 := hc
   show none = og (memX _ _ _ _ _ _ _ _) c
   simp only [memX, rowF, og_cons]
   repeat rw [if_neg (by omega)]
   rfl
 | cons e l =>
  refine SCall.freeze (es := (e :: l).map encE) hc (op := true) ?_ (by show 1000 ≤ 1007 + l.length; omega) (by show 1000 ≤ 1007 + l.length; omega) (fun e' he => ?_) (by simp) (by omega) rfl rfl (fun c o ho => by cases ho) (fun c hc => ?_)
  ·show og (memX _ _ _ _ _ _ _ _) (1007 + l.length) = _
   simp only [memX, rowF, og_cons]
   repeat rw [if_neg (by omega)]
   rw [if_pos trivial]; rfl
  ·obtain ⟨x, _, rfl⟩ := List.mem_map.1 he; rfl
  ·have hc : c < 1000 := hc
   show none = og (memX _ _ _ _ _ _ _ _) c
   simp only [memX, rowF, og_cons]
   repeat rw [if_neg (by omega)]
   rfl
theorem scan_spec (b : List Nat) (hlen : b.length ≤ 700000000) (h8 : ∀ x ∈ b, x < 256) (h : H) :
  SCall Go.Proofs.Try.prog [] 12 [.str b] none h (.ret (scanV b)) none { h with nxt := h.nxt + (7 + (scanR b).1.l.length) } := by
 have core := scan_core2 b hlen h8
 refine SCall.known rfl core.fn fun bg => ?_
 obtain ⟨E, F, w0, w, args', bg⟩ := bg
 have hfr := fun c (hc : h.nxt ≤ c) => (bg.mr.fresh c hc).2.1
 have hvin : ∀ {D : Nat → Prop}, (scanV b).In D := ⟨⟨encEs_in _, trivial⟩, trivial, trivial⟩
 refine SCall.frameL (n := 7 + (scanR b).1.l.length) (ol := []) (ol' := []) (args := [.str b]) (v := scanV b) [] rfl (by have := core; simp only [nxF] at this; rw [show 1007 + (scanR b).1.l.length = glim + ([] : List Nat).length + (7 + (scanR b).1.l.length) from by simp [glim]; omega] at this; exact this) .nil (by simp) (fun i => ?_) rfl (fun i c o hi ho => by cases hi) trivial ⟨trivial, trivial⟩ hvin trivial rfl (V.ren_id (ρ := ρL [] h.nxt) (D := fun _ => False) (fun i hi => hi.elim) hvin) rfl rfl (fun i hi => ?_) (fun c hc => rfl)
 ·show (Option.isSome none = true) ↔ 1000 ≤ i ∧ i < 1000
  simp
 ·have : ρL [] h.nxt (glim + i) = h.nxt + i := (ρL_new (bs := []) (by simp)).trans (by simp)
  rw [this]
  exact hfr _ (by omega)
end Go.VM
end
section
/- The cache's file: what a beginning of bytes holds is a beginning of what they hold. -/
set_option maxRecDepth 100000
set_option linter.unusedVariables false
set_option linter.unusedSimpArgs false
namespace Go.VM
open Go.RowKit
theorem takeF_cut {b : List Nat} {c a n : Nat} {w : Bool} (h : (takeF (b.take c) a w n).2.2 = true) : takeF b a w n = takeF (b.take c) a w n := by
 unfold takeF at h ⊢
 split at h
 ·rename_i h1
  obtain ⟨h1, h2⟩ := h1
  rw [List.length_take] at h2
  rw [if_pos ⟨h1, by omega⟩, if_pos ⟨h1, by rw [List.length_take]; exact h2⟩, List.drop_take, List.take_take, show min n (c - a) = n by omega]
 ·cases h
theorem numF_cut {b : List Nat} {c a : Nat} {w : Bool} (h : (numF (b.take c) a w).2.2 = true) : numF b a w = numF (b.take c) a w := by
 unfold numF at h ⊢
 simp only [Bool.and_eq_true] at h
 rw [takeF_cut h.1]
theorem takeF_w {b : List Nat} {a n : Nat} {w : Bool} (h : (takeF b a w n).2.2 = true) : w = true := by
 unfold takeF at h
 split at h
 ·rename_i h1; exact h1.1
 ·cases h
theorem textF_cut {b : List Nat} {c a : Nat} {w : Bool} (h : (textF (b.take c) a w).2.2 = true) : textF b a w = textF (b.take c) a w := by
 unfold textF at h ⊢
 have h1 := takeF_w h
 rw [numF_cut h1, takeF_cut h]
theorem numF_w {b : List Nat} {a : Nat} {w : Bool} (h : (numF b a w).2.2 = true) : w = true := by
 unfold numF at h
 simp only [Bool.and_eq_true] at h
 exact takeF_w h.1
theorem textF_w {b : List Nat} {a : Nat} {w : Bool} (h : (textF b a w).2.2 = true) : w = true := numF_w (takeF_w h)
theorem recF_cut {b : List Nat} {c a kind : Nat} {x : Rec} (h : recF (b.take c) a kind = some (x, true)) : recF b a kind = some (x, true) := by
 unfold recF at h ⊢
 split at h
 ·rename_i h1
  simp only [Option.some.injEq, Prod.mk.injEq] at h
  obtain ⟨h2, h3⟩ := h
  have h4 := textF_w h3
  rw [if_pos h1]
  simp only
  rw [textF_cut h4, textF_cut h3]
  simp only [Option.some.injEq, Prod.mk.injEq]
  exact ⟨h2, h3⟩
 ·rename_i h1
  rw [if_neg h1]
  split at h
  ·rename_i h2
   simp only [Option.some.injEq, Prod.mk.injEq] at h
   obtain ⟨h3, h4⟩ := h
   rw [if_pos h2]
   simp only
   rw [numF_cut h4]
   simp only [Option.some.injEq, Prod.mk.injEq]
   exact ⟨h3, h4⟩
  ·cases h
structure Le (s t : Sc) : Prop where
 good : s.good ≤ t.good
 l : ∀ (i : Nat) (e : Ent), s.l[i]? = some e → ∃ e', t.l[i]? = some e' ∧ e.k = e'.k ∧ e.v = e'.v ∧ (e.live = true → e'.live = true) ∧ e.last ≤ e'.last
theorem Le.refl (s : Sc) : Le s s := ⟨Nat.le_refl _, fun i e h => ⟨e, h, rfl, rfl, id, Nat.le_refl _⟩⟩
end Go.VM
end
section
/- What is appended is read again. -/
set_option maxRecDepth 100000
set_option linter.unusedVariables false
set_option linter.unusedSimpArgs false
namespace Go.VM
theorem takeF_mid (p q r : List Nat) : takeF (p ++ (q ++ r)) p.length true q.length = (q, p.length + q.length, true) := by
 unfold takeF
 rw [if_pos ⟨rfl, by simp⟩]
 simp
theorem be_num4 (n : Nat) (h : n < 4294967296) : be (num4 n) = n := by
 simp only [be, num4, List.foldl]
 omega
theorem numF_mid (p r : List Nat) (n : Nat) (h : n ≤ 2147483647) : numF (p ++ (num4 n ++ r)) p.length true = (n, p.length + 4, true) := by
 unfold numF
 have := takeF_mid p (num4 n) r
 rw [num4_len] at this
 rw [this]
 simp only [be_num4 n (by omega), Bool.true_and]
 rw [decide_eq_true h]
theorem textF_mid (p r : List Nat) (k : List Nat) (h : k.length ≤ 2147483647) : textF (p ++ (num4 k.length ++ (k ++ r))) p.length true = (k, p.length + 4 + k.length, true) := by
 unfold textF
 rw [numF_mid p (k ++ r) k.length h]
 have := takeF_mid (p ++ num4 k.length) k r
 rw [List.length_append, num4_len, List.append_assoc] at this
 exact this
theorem recF_entry (b k v : List Nat) (hk : k.length ≤ 2147483647) (hv : v.length ≤ 2147483647) : recF (b ++ entryB k v) b.length 1 = some (⟨1, k, v, 0, (b ++ entryB k v).length⟩, true) := by
 have e1 : b ++ entryB k v = (b ++ [1]) ++ (num4 k.length ++ (k ++ (num4 v.length ++ (v ++ [])))) := by simp [entryB]
 have t1 := textF_mid (b ++ [1]) (num4 v.length ++ (v ++ [])) k hk
 have t2 := textF_mid ((b ++ [1]) ++ (num4 k.length ++ k)) [] v hv
 rw [← e1] at t1
 have e2 : (b ++ [1]) ++ (num4 k.length ++ k) ++ (num4 v.length ++ (v ++ [])) = b ++ entryB k v := by simp [entryB]
 rw [e2] at t2
 have l1 : (b ++ [1]).length = b.length + 1 := by simp
 have l2 : (b ++ [1] ++ (num4 k.length ++ k)).length = b.length + 1 + 4 + k.length := by simp [num4_len]; omega
 rw [l1] at t1
 rw [l2] at t2
 unfold recF
 rw [if_pos rfl]
 simp only [t1, t2]
 have l3 : (b ++ entryB k v).length = b.length + 1 + 4 + k.length + 4 + v.length := by simp [entryB, num4_len]; omega
 rw [l3]
theorem recF_mark (b : List Nat) (kind i : Nat) (hk : kind = 2 ∨ kind = 3) (hi : i ≤ 2147483647) : recF (b ++ markB kind i) b.length kind = some (⟨kind, [], [], i, (b ++ markB kind i).length⟩, true) := by
 have e1 : b ++ markB kind i = (b ++ [kind]) ++ (num4 i ++ []) := by simp [markB]
 have t1 := numF_mid (b ++ [kind]) [] i hi
 rw [← e1] at t1
 have l1 : (b ++ [kind]).length = b.length + 1 := by simp
 rw [l1] at t1
 unfold recF
 rw [if_neg (by omega), if_pos hk]
 simp only [t1]
 have l3 : (b ++ markB kind i).length = b.length + 1 + 4 := by simp [markB, num4_len]
 rw [l3]
inductive Rch (b : List Nat) : Nat → Sc → Prop where
 | z : Rch b 0 sc0
 | s {a kind : Nat} {s s' : Sc} {x : Rec} (h : Rch b a s) (hk : b[a]? = some kind) (hr : recF b a kind = some (x, true)) (ha : addF s x = some s') : Rch b x.e s'
theorem Rch.app {b : List Nat} {a : Nat} {s : Sc} (h : Rch b a s) (t : List Nat) : Rch (b ++ t) a s := by
 induction h with
 | z => exact .z
 | s h hk hr ha ih =>
  have e : (b ++ t).take b.length = b := by simp
  refine .s ih ?_ (recF_cut (c := b.length) (by rw [e]; exact hr)) ha
  rw [List.getElem?_append_left (List.getElem?_eq_some_iff.1 hk).1]; exact hk
theorem Rch.good {b : List Nat} {a : Nat} {s : Sc} (h : Rch b a s) : s.good = a := by
 cases h with
 | z => rfl
 | s h hk hr ha => exact (addF_le ha).2.2
theorem scanL_fuel {b : List Nat} (h8 : ∀ x ∈ b, x < 256) : ∀ (m m' a : Nat) (s : Sc), b.length - a < m → b.length - a < m' → scanL b m a s = scanL b m' a s := by
 intro m
 induction m with
 | zero => intro m' a s h; omega
 | succ m ih =>
  intro m' a s h h'
  cases m' with
  | zero => omega
  | succ m' =>
   unfold scanL
   cases hk : b[a]? with
   | none => rfl
   | some kind =>
    simp only
    cases hr : recF b a kind with
    | none => rfl
    | some p =>
     obtain ⟨x, w⟩ := p
     cases w with
     | false => rfl
     | true =>
      simp only
      cases ha : addF s x with
      | none => rfl
      | some s' =>
       have := (recF_ok hk h8 hr).1
       have := (List.getElem?_eq_some_iff.1 hk).1
       exact ih m' x.e s' (by omega) (by omega)
theorem Rch.scan {b : List Nat} (h8 : ∀ x ∈ b, x < 256) {a : Nat} {s : Sc} (h : Rch b a s) : scanR b = scanL b (b.length - a + 1) a s := by
 induction h with
 | z => rfl
 | s h hk hr ha ih =>
  rename_i a kind s s' x
  rw [ih]
  have e : scanL b (b.length - a + 1) a s = scanL b (b.length - a) x.e s' := by
   show scanL b ((b.length - a) + 1) a s = _
   conv => lhs; unfold scanL
   simp only [hk, hr, ha]
  rw [e]
  have := (recF_ok hk h8 hr).1
  have := (List.getElem?_eq_some_iff.1 hk).1
  exact scanL_fuel h8 _ _ _ _ (by omega) (by omega)
theorem Rch.whole {b : List Nat} (h8 : ∀ x ∈ b, x < 256) {s : Sc} (h : Rch b b.length s) : scanR b = (s, b.length, true, false) := by
 rw [h.scan h8, Nat.sub_self]
 unfold scanL
 rw [List.getElem?_eq_none (Nat.le_refl _)]
theorem Rch.entry {b : List Nat} {s : Sc} (h : Rch b b.length s) (k v : List Nat) (hk : k.length ≤ 2147483647) (hv : v.length ≤ 2147483647) : Rch (b ++ entryB k v) (b ++ entryB k v).length ⟨s.l ++ [⟨k, v, false, 0⟩], (b ++ entryB k v).length, s.last⟩ :=
 .s (x := ⟨1, k, v, 0, (b ++ entryB k v).length⟩) (h.app _) (by rw [List.getElem?_append_right (Nat.le_refl _)]; simp [entryB]) (recF_entry b k v hk hv) rfl
theorem Rch.mark {b : List Nat} {s : Sc} (h : Rch b b.length s) (kind i : Nat) (e : Ent) (hk : kind = 2 ∨ kind = 3) (hi : i ≤ 2147483647) (he : s.l[i]? = some e) (hl : e.live = decide (kind = 3)) : Rch (b ++ markB kind i) (b ++ markB kind i).length ⟨s.l.set i { e with live := true, last := s.last + 1 }, (b ++ markB kind i).length, s.last + 1⟩ :=
 .s (x := ⟨kind, [], [], i, (b ++ markB kind i).length⟩) (h.app _) (by rw [List.getElem?_append_right (Nat.le_refl _)]; simp [markB]) (recF_mark b kind i hk hi) (by
  have h1 : ¬ kind = 1 := by omega
  simp only [addF, if_neg h1, he, if_pos hl])
end Go.VM
end
section
/- A cache in memory is what its disk has. -/
set_option maxRecDepth 100000
set_option linter.unusedVariables false
set_option linter.unusedSimpArgs false
namespace Go.VM
def areaOf (d : Dk) (a : Int) : List Nat := if a = 0 then d.a0 else d.a1
theorem areaD_of (d : Dk) : areaD d = areaOf d d.root := rfl
structure Same (d d' : Dk) : Prop where
 a0 : d'.a0 = d.a0
 a1 : d'.a1 = d.a1
 root : d'.root = d.root
theorem Same.area {d d' : Dk} (h : Same d d') (a : Int) : areaOf d' a = areaOf d a := by unfold areaOf; rw [h.a0, h.a1]
def Fine (d : Dk) : Prop := d.off = false ∧ d.fuse < 0
theorem done_fine (d : Dk) (w : Wr) : (done d w).1.off = d.off ∧ (done d w).1.fuse = d.fuse ∧ (done d w).2 = 0 := by
 unfold done
 split
 ·split <;> exact ⟨rfl, rfl, rfl⟩
 ·split
  ·split <;> exact ⟨rfl, rfl, rfl⟩
  ·exact ⟨rfl, rfl, rfl⟩
theorem write_or (d : Dk) (w : Wr) (ha : w.area = 0 ∨ w.area = 1) : ((write d w).2 = 0 ∧ ∃ d1, Same d d1 ∧ (write d w).1 = (done d1 w).1 ∧ (Fine d → Fine (write d w).1)) ∨ ((write d w).2 ≠ 0 ∧ Same d (write d w).1 ∧ ¬ Fine d) := by
 unfold write
 by_cases h1 : d.off = true
 ·rw [if_pos h1]; exact .inr ⟨by simp, ⟨rfl, rfl, rfl⟩, fun h => by rw [h.1] at h1; cases h1⟩
 ·rw [if_neg h1, if_neg (fun h => h ha)]
  by_cases h2 : d.fuse = 0
  ·rw [if_pos h2]; exact .inr ⟨by simp, ⟨rfl, rfl, rfl⟩, fun h => by have := h.2; omega⟩
  ·rw [if_neg h2]
   refine .inl ⟨(done_fine _ w).2.2, _, ?_, rfl, fun h => ?_⟩
   ·split <;> exact ⟨rfl, rfl, rfl⟩
   ·obtain ⟨q1, q2, _⟩ := done_fine (if 0 < d.fuse then { d with fuse := d.fuse - 1 } else d) w
    refine ⟨q1.trans ?_, ?_⟩
    ·split <;> exact h.1
    ·have := h.2
     rw [q2, if_neg (by omega)]; exact this
theorem done_app (d : Dk) (a : Int) (s : List Nat) (ha : a = 0 ∨ a = 1) : areaOf (done d ⟨1, a, s⟩).1 a = areaOf d a ++ s ∧ areaOf (done d ⟨1, a, s⟩).1 (1 - a) = areaOf d (1 - a) ∧ (done d ⟨1, a, s⟩).1.root = d.root := by
 rcases ha with rfl | rfl <;> exact ⟨rfl, rfl, rfl⟩
theorem done_clear (d : Dk) (a : Int) (ha : a = 0 ∨ a = 1) : areaOf (done d ⟨2, a, []⟩).1 a = [] ∧ areaOf (done d ⟨2, a, []⟩).1 (1 - a) = areaOf d (1 - a) ∧ (done d ⟨2, a, []⟩).1.root = d.root := by
 rcases ha with rfl | rfl <;> exact ⟨rfl, rfl, rfl⟩
theorem done_root (d : Dk) (a : Int) : (done d ⟨3, a, []⟩).1.a0 = d.a0 ∧ (done d ⟨3, a, []⟩).1.a1 = d.a1 ∧ (done d ⟨3, a, []⟩).1.root = a := ⟨rfl, rfl, rfl⟩
structure RelA (b : List Nat) (C : CSt) : Prop where
 sc : ∃ s, Rch b b.length s ∧ s.l.map toZ = C.L ∧ (s.last : Int) = C.last
 len : C.len = b.length
 h8 : ∀ x ∈ b, x < 256
theorem entryB_lt {k v : List Nat} (hk : ∀ x ∈ k, x < 256) (hv : ∀ x ∈ v, x < 256) : ∀ x ∈ entryB k v, x < 256 := by
 intro x hx
 simp only [entryB, List.mem_append, List.mem_singleton] at hx
 rcases hx with (((h | h) | h) | h) | h
 ·omega
 ·exact num4_lt _ _ h
 ·exact hk _ h
 ·exact num4_lt _ _ h
 ·exact hv _ h
theorem markB_lt {kind i : Nat} (hk : kind < 256) : ∀ x ∈ markB kind i, x < 256 := by
 intro x hx
 rcases List.mem_cons.1 hx with h | h
 ·omega
 ·exact num4_lt _ _ h
theorem RelA.entry {b : List Nat} {C : CSt} (h : RelA b C) (k v : List Nat) (hk : k.length ≤ 2147483647) (hv : v.length ≤ 2147483647) (k8 : ∀ x ∈ k, x < 256) (v8 : ∀ x ∈ v, x < 256) : RelA (b ++ entryB k v) { C with len := C.len + (entryB k v).length, L := C.L ++ [⟨k, v, false, 0⟩] } := by
 obtain ⟨⟨s, h1, h2, h3⟩, h4, h5⟩ := h
 refine ⟨⟨_, h1.entry k v hk hv, ?_, h3⟩, ?_, fun x hx => ?_⟩
 ·show (s.l ++ [_]).map toZ = C.L ++ [_]
  rw [List.map_append, h2]; rfl
 ·show C.len + _ = _
  rw [List.length_append, h4]
 ·rcases List.mem_append.1 hx with h | h
  ·exact h5 x h
  ·exact entryB_lt k8 v8 x h
theorem RelA.mark {b : List Nat} {C : CSt} (h : RelA b C) (kind i : Nat) (e : EZ) (hk : kind = 2 ∨ kind = 3) (hi : i ≤ 2147483647) (he : C.L[i]? = some e) (hl : e.live = decide (kind = 3)) : RelA (b ++ markB kind i) { C with len := C.len + 5, last := C.last + 1, L := setMark C.L i (C.last + 1) } := by
 obtain ⟨⟨s, h1, h2, h3⟩, h4, h5⟩ := h
 have he2 := he
 rw [← h2, List.getElem?_map] at he2
 obtain ⟨e0, q1, q2⟩ : ∃ e0, s.l[i]? = some e0 ∧ toZ e0 = e := by
  cases hq : s.l[i]? with
  | none => rw [hq] at he2; cases he2
  | some e0 => rw [hq] at he2; exact ⟨e0, rfl, Option.some.inj he2⟩
 refine ⟨⟨_, h1.mark kind i e0 hk hi q1 (by rw [← hl, ← q2]; rfl), ?_, ?_⟩, ?_, fun x hx => ?_⟩
 ·show (s.l.set i _).map toZ = setMark C.L i (C.last + 1)
  unfold setMark
  rw [he, List.map_set, h2, ← q2, ← h3]; rfl
 ·show ((s.last + 1 : Nat) : Int) = C.last + 1
  omega
 ·show C.len + 5 = _
  rw [List.length_append, h4]; rfl
 ·rcases List.mem_append.1 hx with h | h
  ·exact h5 x h
  ·exact markB_lt (by omega) x h
structure Rel (d : Dk) (C : CSt) : Prop where
 a : RelA (areaOf d C.root) C
 root : d.root = C.root
 rt : C.root = 0 ∨ C.root = 1
theorem Rel.same {d d' : Dk} {C : CSt} (h : Rel d C) (s : Same d d') : Rel d' C := ⟨by rw [s.area]; exact h.a, s.root.trans h.root, h.rt⟩
theorem marksP_rel {d : Dk} {C : CSt} (h : Rel d C) (kind i : Nat) (e : EZ) (hk : kind = 2 ∨ kind = 3) (hi : i ≤ 2147483647) (he : C.L[i]? = some e) (hl : e.live = decide (kind = 3)) : Rel (marksP d C kind i).1 (marksP d C kind i).2.1 ∧ (Fine d → (marksP d C kind i).2.2 = 0 ∧ Fine (marksP d C kind i).1) ∧ ((marksP d C kind i).2.2 = 0 → (marksP d C kind i).2.1.L = setMark C.L i (C.last + 1) ∧ (marksP d C kind i).2.1.last = C.last + 1) ∧ ((marksP d C kind i).2.2 ≠ 0 → (marksP d C kind i).2.1 = C) := by
 have e1 : (marksP d C kind i).1 = (write d ⟨1, C.root, markB kind i⟩).1 := rfl
 have e2 : (marksP d C kind i).2.2 = (write d ⟨1, C.root, markB kind i⟩).2 := rfl
 have e3 : (marksP d C kind i).2.1 = if (write d ⟨1, C.root, markB kind i⟩).2 = 0 then { (if (write d ⟨1, C.root, markB kind i⟩).2 = 0 then { C with len := C.len + (markB kind i).length } else C) with last := C.last + 1, L := setMark C.L i (C.last + 1) } else C := rfl
 rw [e1, e2, e3]
 rcases write_or d ⟨1, C.root, markB kind i⟩ h.rt with ⟨q1, d1, q2, q3, q4⟩ | ⟨q1, q2, q3⟩
 ·rw [q1]
  simp only [if_true]
  obtain ⟨g1, g2, g3⟩ := done_app d1 C.root (markB kind i) h.rt
  refine ⟨⟨?_, ?_, h.rt⟩, fun f => ⟨trivial, q4 f⟩, fun _ => ⟨trivial, trivial⟩, fun q => absurd rfl q⟩
  ·show RelA (areaOf _ C.root) _
   rw [q3, g1, q2.area]
   exact h.a.mark kind i e hk hi he hl
  ·rw [q3, g3, q2.root]; exact h.root
 ·simp only [if_neg q1]
  exact ⟨h.same q2, fun f => absurd f q3, fun q => absurd q q1, fun _ => trivial⟩
theorem storeC_rel {d : Dk} {C : CSt} (h : Rel d C) (k v : List Nat) (hk : k.length ≤ 2147483647) (hv : v.length ≤ 2147483647) (k8 : ∀ x ∈ k, x < 256) (v8 : ∀ x ∈ v, x < 256) : ((addP d C (entryB k v)).2.2 = 0 → Rel (addP d C (entryB k v)).1 (storeC (addP d C (entryB k v)).2.1 k v)) ∧ ((addP d C (entryB k v)).2.2 ≠ 0 → Rel (addP d C (entryB k v)).1 (addP d C (entryB k v)).2.1 ∧ (addP d C (entryB k v)).2.1 = C) ∧ (Fine d → (addP d C (entryB k v)).2.2 = 0 ∧ Fine (addP d C (entryB k v)).1) := by
 have e1 : (addP d C (entryB k v)).1 = (write d ⟨1, C.root, entryB k v⟩).1 := rfl
 have e2 : (addP d C (entryB k v)).2.2 = (write d ⟨1, C.root, entryB k v⟩).2 := rfl
 have e3 : (addP d C (entryB k v)).2.1 = if (write d ⟨1, C.root, entryB k v⟩).2 = 0 then { C with len := C.len + (entryB k v).length } else C := rfl
 rw [e1, e2, e3]
 rcases write_or d ⟨1, C.root, entryB k v⟩ h.rt with ⟨q1, d1, q2, q3, q4⟩ | ⟨q1, q2, q3⟩
 ·rw [q1]
  simp only [if_true]
  obtain ⟨g1, g2, g3⟩ := done_app d1 C.root (entryB k v) h.rt
  refine ⟨fun _ => ⟨?_, ?_, h.rt⟩, fun q => absurd rfl q, fun f => ⟨trivial, q4 f⟩⟩
  ·show RelA (areaOf _ C.root) _
   rw [q3, g1, q2.area]
   exact h.a.entry k v hk hv k8 v8
  ·rw [q3, g3, q2.root]; exact h.root
 ·simp only [if_neg q1]
  exact ⟨fun q => absurd q q1, fun _ => ⟨h.same q2, trivial⟩, fun f => absurd f q3⟩
end Go.VM
end
