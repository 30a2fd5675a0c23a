/- laid for this seat: VtStab3 -/
import Derived.Test.YtonlemmcdecibaaVtStab2
import Derived.Test.YtonlemmcdecibaaVtRunP
/- The library's stable sort sorts: blocks, all of it; what the program keeps is what the document keeps. -/
set_option maxRecDepth 100000
set_option linter.unusedVariables false
set_option linter.unusedSimpArgs false
namespace Go.VM
theorem sink_ok (K : Nat → Int) (n : Nat) : ∀ (P : List Nat), P.length = n → ∀ (A B : List Nat) (y a i : Nat), A.length = a → a + n = i → Srt K P → (∀ p ∈ P, p < y) →
  ∃ M, sinkF K a i (A ++ (P ++ y :: B)) = A ++ (M ++ B) ∧ M.Perm (P ++ [y]) ∧ Srt K M := by
 induction n with
 | zero =>
  intro P h A B y a i ha hi _ _
  have : P = [] := List.eq_nil_of_length_eq_zero h
  subst this
  refine ⟨[y], ?_, List.Perm.refl _, List.pairwise_singleton _ _⟩
  cases i with
  | zero => simp [sinkF]
  | succ j =>
   unfold sinkF
   split
   ·split
    ·omega
    ·simp
   ·simp
 | succ n ih =>
  intro P h A B y a i ha hi sp hlt
  obtain ⟨P', p, rfl⟩ : ∃ P' p, P = P' ++ [p] := by
   rcases List.eq_nil_or_concat P with e | ⟨P', p, e⟩
   ·subst e; simp at h
   ·exact ⟨P', p, by simpa using e⟩
  have hl : P'.length = n := by simpa using h
  obtain ⟨j, rfl⟩ : ∃ j, i = j + 1 := ⟨i - 1, by omega⟩
  have sp' := (List.pairwise_append.1 sp).1
  have spp := (List.pairwise_append.1 sp).2.2
  have eq0 : A ++ (P' ++ [p] ++ y :: B) = (A ++ P') ++ p :: (y :: B) := by simp
  have eq1 : (A ++ P') ++ p :: (y :: B) = (A ++ P' ++ [p]) ++ y :: B := by simp
  rw [eq0]
  have e2 : ((A ++ P') ++ p :: (y :: B))[j]? = some p := get_at (by simp; omega)
  have e1 : ((A ++ P') ++ p :: (y :: B))[j + 1]? = some y := by rw [eq1]; exact get_at (by simp; omega)
  have e3 : (((A ++ P') ++ p :: (y :: B)).set (j + 1) p).set j y = A ++ (P' ++ y :: (p :: B)) := by
   rw [eq1, set_at p (by simp; omega)]
   have : (A ++ P' ++ [p]) ++ p :: B = (A ++ P') ++ p :: (p :: B) := by simp
   rw [this, set_at y (by simp; omega)]
   simp
  have hsk : sinkF K a (j + 1) ((A ++ P') ++ p :: (y :: B)) = if j + 1 > a ∧ K p < K y then sinkF K a j (A ++ (P' ++ y :: (p :: B))) else (A ++ P') ++ p :: (y :: B) := by
   rw [← e3]
   show (match ((A ++ P') ++ p :: (y :: B))[j]?, ((A ++ P') ++ p :: (y :: B))[j + 1]? with | some y', some x => if j + 1 > a ∧ K y' < K x then sinkF K a j ((((A ++ P') ++ p :: (y :: B)).set (j + 1) y').set j x) else (A ++ P') ++ p :: (y :: B) | _, _ => _) = _
   rw [e1, e2]
  rw [hsk]
  by_cases hk : K p < K y
  ·rw [if_pos ⟨by omega, hk⟩]
   obtain ⟨M', m1, m2, m3⟩ := ih P' hl A (p :: B) y a j ha (by omega) sp' (fun q hq => hlt q (by simp [hq]))
   refine ⟨M' ++ [p], by rw [m1]; simp, ?_, ?_⟩
   ·refine (List.Perm.append_right [p] m2).trans ?_
    rw [List.append_assoc, List.append_assoc]
    exact List.Perm.append_left P' List.perm_append_comm
   ·refine srt_app m3 (List.pairwise_singleton _ _) (fun x hx z hz => ?_)
    simp at hz; subst hz
    rcases List.mem_append.1 (m2.mem_iff.1 hx) with hx | hx
    ·exact spp x hx z (by simp)
    ·simp at hx; subst hx; exact .inl hk
  ·rw [if_neg (fun q => hk q.2)]
   refine ⟨P' ++ [p] ++ [y], by simp, List.Perm.refl _, ?_⟩
   have hr : Rk K p y := by have := hlt p (by simp); unfold Rk; omega
   refine srt_app sp (List.pairwise_singleton _ _) (fun x hx z hz => ?_)
   simp at hz; subst hz
   rcases List.mem_append.1 hx with hx | hx
   ·exact (spp x hx p (by simp)).trans hr
   ·simp at hx; subst hx; exact hr
abbrev Inc (l : List Nat) : Prop := l.Pairwise (· < ·)
theorem ins_ok (K : Nat → Int) (a : Nat) : ∀ (Q P A B : List Nat) (i : Nat), A.length = a → a + P.length = i → Srt K P → Inc Q → (∀ p ∈ P, ∀ q ∈ Q, p < q) →
  ∃ M, insG K a Q.length i (A ++ (P ++ (Q ++ B))) = A ++ (M ++ B) ∧ M.Perm (P ++ Q) ∧ Srt K M
 | [], P, A, B, i, _, _, sp, _, _ => ⟨P, by simp [insG], by simp, sp⟩
 | y :: Q, P, A, B, i, ha, hi, sp, inc, hlt => by
  obtain ⟨M1, m1, m2, m3⟩ := sink_ok K P.length P rfl A (Q ++ B) y a i ha hi sp (fun p hp => hlt p hp y (by simp))
  have inc' := List.pairwise_cons.1 inc
  obtain ⟨M, n1, n2, n3⟩ := ins_ok K a Q M1 A B (i + 1) ha (by rw [m2.length_eq]; simp; omega) m3 inc'.2 (fun p hp q hq => by
   rcases List.mem_append.1 (m2.mem_iff.1 hp) with hp | hp
   ·exact hlt p hp q (by simp [hq])
   ·simp at hp; subst hp; exact inc'.1 q hq)
  refine ⟨M, ?_, ?_, n3⟩
  ·show insG K a Q.length (i + 1) (sinkF K a i (A ++ (P ++ (y :: Q ++ B)))) = _
   have : A ++ (P ++ (y :: Q ++ B)) = A ++ (P ++ y :: (Q ++ B)) := by simp
   rw [this, m1]; exact n1
  ·refine n2.trans ((List.Perm.append_right Q m2).trans ?_)
   simp
theorem seg_ok (K : Nat → Int) (S A B : List Nat) (a b : Nat) (ha : A.length = a) (hb : a + S.length = b) (inc : Inc S) :
  ∃ M, insG K a (b - (a + 1)) (a + 1) (A ++ (S ++ B)) = A ++ (M ++ B) ∧ M.Perm S ∧ Srt K M := by
 cases S with
 | nil => exact ⟨[], by rw [show b - (a + 1) = 0 by simp at hb; omega]; simp [insG], List.Perm.refl _, List.Pairwise.nil⟩
 | cons x Q =>
  have h := List.pairwise_cons.1 inc
  obtain ⟨M, m1, m2, m3⟩ := ins_ok K a Q [x] A B (a + 1) ha rfl (List.pairwise_singleton _ _) h.2 (fun p hp q hq => by simp at hp; subst hp; exact h.1 q hq)
  refine ⟨M, ?_, m2, m3⟩
  rw [show b - (a + 1) = Q.length by simp at hb; omega]
  exact m1
inductive Blk (K : Nat → Int) (bs : Nat) : List Nat → List Nat → Prop where
 | nil : Blk K bs [] []
 | cons {P O Rs Os : List Nat} (h0 : 0 < P.length) (h1 : P.length ≤ bs) (h2 : P.length < bs → Rs = []) (hs : Srt K P) (hp : P.Perm O) (t : Blk K bs Rs Os) : Blk K bs (P ++ Rs) (O ++ Os)
theorem Blk.len {K : Nat → Int} {bs : Nat} {xs os : List Nat} (h : Blk K bs xs os) : xs.length = os.length := by
 induction h with
 | nil => rfl
 | cons _ _ _ _ hp _ ih => simp [hp.length_eq, ih]
theorem Blk.one {K : Nat → Int} {bs : Nat} {P O : List Nat} (h1 : P.length ≤ bs) (hs : Srt K P) (hp : P.Perm O) : Blk K bs P O := by
 cases P with
 | nil => rw [← List.Perm.nil_eq hp]; exact .nil
 | cons p P => simpa using Blk.cons (K := K) (bs := bs) (P := p :: P) (O := O) (Rs := []) (Os := []) (by simp) h1 (fun _ => rfl) hs hp .nil
theorem irow_ok (K : Nat → Int) (n : Nat) : ∀ (f a : Nat) (A R : List Nat), n < f + a → A.length = a → a + R.length = n → Inc R →
  ∃ T, insG K (irow K n f a (A ++ R)).1 (n - ((irow K n f a (A ++ R)).1 + 1)) ((irow K n f a (A ++ R)).1 + 1) (irow K n f a (A ++ R)).2 = A ++ T ∧ Blk K 20 T R := by
 intro f
 induction f with
 | zero => intro a A R h1 h2 h3; omega
 | succ f ih =>
  intro a A R hf ha hn inc
  by_cases h : a + 20 ≤ n
  ·have hl : (R.take 20).length = 20 := by rw [List.length_take]; omega
   obtain ⟨M, m1, m2, m3⟩ := seg_ok K (R.take 20) A (R.drop 20) a (a + 20) ha (by omega) (inc.sublist (List.take_sublist _ _))
   rw [List.take_append_drop] at m1
   have hM : M.length = 20 := by rw [m2.length_eq]; exact hl
   rw [show irow K n (f + 1) a (A ++ R) = irow K n f (a + 20) (insG K a (a + 20 - (a + 1)) (a + 1) (A ++ R)) from by simp only [irow, if_pos h], m1, ← List.append_assoc]
   obtain ⟨T, t1, t2⟩ := ih (a + 20) (A ++ M) (R.drop 20) (by omega) (by simp; omega) (by rw [List.length_drop]; omega) (inc.sublist (List.drop_sublist _ _))
   refine ⟨M ++ T, by rw [t1]; simp, ?_⟩
   have := Blk.cons (K := K) (bs := 20) (by omega) (by omega) (fun h => by omega) m3 m2 t2
   rwa [List.take_append_drop] at this
  ·rw [show irow K n (f + 1) a (A ++ R) = (a, A ++ R) from by simp only [irow, if_neg h]]
   obtain ⟨M, m1, m2, m3⟩ := seg_ok K R A [] a n ha hn inc
   simp only [List.append_nil] at m1
   refine ⟨M, m1, Blk.one (by rw [m2.length_eq]; omega) m3 m2⟩
theorem mrow_ok (K : Nat → Int) (n bs : Nat) (hb : 0 < bs) : ∀ (f a : Nat) (A R O : List Nat), n < f + a → A.length = a → a + R.length = n → Blk K bs R O → Inc O →
  ∃ T, (if (mrow K n bs f a (A ++ R)).1 + bs < n then symF K n (mrow K n bs f a (A ++ R)).1 ((mrow K n bs f a (A ++ R)).1 + bs) n (mrow K n bs f a (A ++ R)).2 else (mrow K n bs f a (A ++ R)).2) = A ++ T ∧ Blk K (2 * bs) T O := by
 intro f
 induction f with
 | zero => intro a A R O h1 h2 h3; omega
 | succ f ih =>
  intro a A R O hf ha hn blk inc
  cases blk with
  | nil =>
   have hna : a = n := by simpa using hn
   rw [show mrow K n bs (f + 1) a (A ++ []) = (a, A ++ []) from by simp only [mrow, if_neg (show ¬ a + 2 * bs ≤ n by omega)]]
   simp only
   rw [if_neg (by omega)]
   exact ⟨[], rfl, .nil⟩
  | @cons P O1 Rs Os h0 h1 h2 hs hp t =>
   cases t with
   | nil =>
    simp only [List.append_nil] at hn ⊢
    rw [show mrow K n bs (f + 1) a (A ++ P) = (a, A ++ P) from by simp only [mrow, if_neg (show ¬ a + 2 * bs ≤ n by omega)]]
    simp only
    rw [if_neg (by omega)]
    refine ⟨P, rfl, Blk.one (by omega) hs hp⟩
   | @cons P2 O2 Rs2 Os2 g0 g1 g2 gs gp t2 =>
    have hP : P.length = bs := by
     rcases Nat.lt_or_ge P.length bs with h | h
     ·have := h2 h
      have := congrArg List.length this
      rw [List.length_append, List.length_nil] at this; omega
     ·omega
    have incO : ∀ x ∈ P, ∀ y ∈ P2, x < y := fun x hx y hy => (List.pairwise_append.1 inc).2.2 x (hp.mem_iff.1 hx) y (by simp [gp.mem_iff.1 hy])
    obtain ⟨M, m1, m2, m3⟩ := symF_ok K n A P P2 Rs2 a (a + bs) (a + bs + P2.length) ha (by omega) rfl (by simp at hn; omega) h0 g0 hs gs incO
    have mp : M.Perm (O1 ++ O2) := m2.trans (hp.append gp)
    have hM : M.length = bs + P2.length := by rw [m2.length_eq]; simp; omega
    rcases Nat.lt_or_ge P2.length bs with hlt | hge
    ·have hR : Rs2 = [] := g2 hlt
     subst hR
     have hO : Os2 = [] := by exact List.eq_nil_of_length_eq_zero t2.len.symm
     subst hO
     simp only [List.append_nil] at hn m1 ⊢
     rw [show mrow K n bs (f + 1) a (A ++ (P ++ P2)) = (a, A ++ (P ++ P2)) from by simp only [mrow, if_neg (show ¬ a + 2 * bs ≤ n by simp at hn; omega)]]
     simp only
     rw [if_pos (by simp at hn; omega)]
     have hb' : a + bs + P2.length = n := by simp at hn; omega
     rw [hb'] at m1
     exact ⟨M, m1, Blk.one (by omega) m3 mp⟩
    ·have hP2 : P2.length = bs := by omega
     have hle : a + 2 * bs ≤ n := by simp at hn; omega
     rw [show a + bs + P2.length = a + 2 * bs by omega] at m1
     rw [show mrow K n bs (f + 1) a (A ++ (P ++ (P2 ++ Rs2))) = mrow K n bs f (a + 2 * bs) (symF K n a (a + bs) (a + 2 * bs) (A ++ (P ++ (P2 ++ Rs2)))) from by simp only [mrow, if_pos hle], m1, ← List.append_assoc]
     obtain ⟨T, t1, t3⟩ := ih (a + 2 * bs) (A ++ M) Rs2 Os2 (by omega) (by simp; omega) (by simp at hn; omega) t2 (List.pairwise_append.1 (List.pairwise_append.1 inc).2.1).2.1
     refine ⟨M ++ T, by rw [t1]; simp, ?_⟩
     have := Blk.cons (K := K) (bs := 2 * bs) (by omega) (by omega) (fun h => by omega) m3 mp t3
     rwa [List.append_assoc] at this
theorem passes_ok (K : Nat → Int) (n : Nat) : ∀ (f bs : Nat) (xs O : List Nat), n < f + bs → 0 < bs → xs.length = n → Blk K bs xs O → Inc O → (passes K n f bs xs).Perm O ∧ Srt K (passes K n f bs xs) := by
 have base : ∀ (bs : Nat) (xs O : List Nat), n ≤ bs → xs.length = n → Blk K bs xs O → xs.Perm O ∧ Srt K xs := by
  intro bs xs O h hl blk
  cases blk with
  | nil => exact ⟨List.Perm.refl _, List.Pairwise.nil⟩
  | @cons P O1 Rs Os h0 h1 h2 hs hp t =>
   have hR : Rs = [] := by
    rcases Nat.lt_or_ge P.length bs with g | g
    ·exact h2 g
    ·exact List.eq_nil_of_length_eq_zero (by simp at hl; omega)
   subst hR
   have hO : Os = [] := by exact List.eq_nil_of_length_eq_zero t.len.symm
   subst hO
   simpa using ⟨hp, hs⟩
 intro f
 induction f with
 | zero => intro bs xs O h h0 hl blk inc; exact base bs xs O (by omega) hl blk
 | succ f ih =>
  intro bs xs O h h0 hl blk inc
  by_cases hb : bs < n
  ·rw [show passes K n (f + 1) bs xs = passes K n f (2 * bs) (passF K n bs xs) from by simp only [passes, if_pos hb]]
   obtain ⟨T, t1, t2⟩ := mrow_ok K n bs h0 (n + 1) 0 [] xs O (by omega) rfl (by simpa using hl) blk inc
   have e : passF K n bs xs = T := by unfold passF; simpa using t1
   rw [e]
   exact ih (2 * bs) T O (by omega) (by omega) (by rw [t2.len, ← blk.len, hl]) t2 inc
  ·rw [show passes K n (f + 1) bs xs = xs from by simp only [passes, if_neg hb]]
   exact base bs xs O (by omega) hl blk
theorem stableF_ok (K : Nat → Int) (xs : List Nat) (inc : Inc xs) : (stableF K xs.length xs).Perm xs ∧ Srt K (stableF K xs.length xs) := by
 obtain ⟨T, t1, t2⟩ := irow_ok K xs.length (xs.length + 1) 0 [] xs (by omega) rfl (by simp) inc
 simp only [List.nil_append] at t1
 unfold stableF
 rw [t1]
 exact passes_ok K xs.length (xs.length + 1) 20 T xs (by omega) (by omega) t2.len t2 inc
theorem liveF_inc : ∀ (l : List EZ) (i : Nat), Inc (liveF l i)
 | [], _ => List.Pairwise.nil
 | e :: l, i => by
  unfold liveF
  split
  ·exact List.pairwise_cons.2 ⟨fun x hx => by have := (liveF_in l (i + 1) x hx).1; omega, liveF_inc l (i + 1)⟩
  ·exact liveF_inc l (i + 1)
def insI (K : Nat → Int) (y : Nat) : List Nat → List Nat
 | [] => [y]
 | x :: r => if K x ≥ K y then x :: insI K y r else y :: x :: r
theorem insI_perm (K : Nat → Int) (y : Nat) : ∀ l, (insI K y l).Perm (y :: l)
 | [] => List.Perm.refl _
 | x :: r => by
  unfold insI
  split
  ·exact ((insI_perm K y r).cons x).trans (List.Perm.swap y x r)
  ·exact List.Perm.refl _
theorem insI_srt (K : Nat → Int) (y : Nat) : ∀ l, Srt K l → (∀ x ∈ l, x < y) → Srt K (insI K y l)
 | [], _, _ => List.pairwise_singleton _ _
 | x :: r, h, hlt => by
  have hx := hlt x (by simp)
  have hc := List.pairwise_cons.1 h
  unfold insI
  split
  ·rename_i hk
   refine List.pairwise_cons.2 ⟨fun z hz => ?_, insI_srt K y r hc.2 (fun z hz => hlt z (by simp [hz]))⟩
   rcases List.mem_cons.1 ((insI_perm K y r).mem_iff.1 hz) with rfl | hz
   ·unfold Rk; omega
   ·exact hc.1 z hz
  ·rename_i hk
   have hyx : Rk K y x := by unfold Rk; omega
   refine List.pairwise_cons.2 ⟨fun z hz => ?_, h⟩
   rcases List.mem_cons.1 hz with rfl | hz
   ·exact hyx
   ·exact hyx.trans (hc.1 z hz)
theorem pick_ins (L : List EZ) (y : Nat) (e : EZ) (he : L[y]? = some e) : ∀ l : List Nat, (∀ x ∈ l, x < L.length) → pickF L (insI (lastK L) y l) = insF (pickF L l) e
 | [], _ => by simp [insI, pickF, insF, he, posF]
 | x :: r, hin => by
  obtain ⟨ex, hx⟩ : ∃ ex, L[x]? = some ex := ⟨_, List.getElem?_eq_getElem (hin x (by simp))⟩
  have k1 : lastK L x = ex.last := by unfold lastK; rw [hx]
  have k2 : lastK L y = e.last := by unfold lastK; rw [he]
  have ih := pick_ins L y e he r (fun z hz => hin z (by simp [hz]))
  have c1 : ∀ (z : Nat) (ez : EZ) (t : List Nat), L[z]? = some ez → pickF L (z :: t) = ez :: pickF L t := fun z ez t h => by simp [pickF, h]
  unfold insI
  split
  ·rename_i hk
   rw [c1 x ex _ hx, c1 x ex _ hx, ih]
   have : posF e.last (ex :: pickF L r) = posF e.last (pickF L r) + 1 := by unfold posF; rw [if_pos (by omega)]; cases pickF L r <;> rfl
   unfold insF
   rw [this]; simp
  ·rename_i hk
   rw [c1 y e _ he, c1 x ex _ hx]
   have : posF e.last (ex :: pickF L r) = 0 := by unfold posF; rw [if_neg (by omega)]
   unfold insF
   rw [this]; simp
theorem sort_same (L : List EZ) : ∀ (l : List EZ) (i : Nat) (S : List Nat), L.drop i = l → Srt (lastK L) S → (∀ x ∈ S, x < i) → (∀ x ∈ S, x < L.length) →
  ∃ T, l.foldl stepF (pickF L S) = pickF L T ∧ Srt (lastK L) T ∧ T.Perm (S ++ liveF l i)
 | [], i, S, _, ss, _, _ => ⟨S, rfl, ss, by simp [liveF]⟩
 | e :: l, i, S, hd, ss, hlt, hin => by
  have hi : i < L.length := by
   rcases Nat.lt_or_ge i L.length with h | h
   ·exact h
   ·rw [List.drop_eq_nil_iff.2 h] at hd; cases hd
  have hd2 := List.drop_eq_getElem_cons hi
  rw [hd] at hd2
  obtain ⟨he, hl⟩ := List.cons.inj hd2
  have he : L[i]? = some e := by rw [List.getElem?_eq_getElem hi, he]
  rw [List.foldl_cons]
  cases hv : e.live with
  | false =>
   have e1 : stepF (pickF L S) e = pickF L S := by simp [stepF, hv]
   rw [e1]
   obtain ⟨T, t1, t2, t3⟩ := sort_same L l (i + 1) S hl.symm ss (fun x hx => by have := hlt x hx; omega) hin
   exact ⟨T, t1, t2, by rw [show liveF (e :: l) i = liveF l (i + 1) from by simp [liveF, hv]]; exact t3⟩
  | true =>
   have e1 : stepF (pickF L S) e = pickF L (insI (lastK L) i S) := by rw [pick_ins L i e he S hin]; simp [stepF, hv]
   rw [e1]
   have hp := insI_perm (lastK L) i S
   obtain ⟨T, t1, t2, t3⟩ := sort_same L l (i + 1) (insI (lastK L) i S) hl.symm (insI_srt _ i S ss hlt) (fun x hx => by
    rcases List.mem_cons.1 (hp.mem_iff.1 hx) with rfl | hx
    ·omega
    ·have := hlt x hx; omega) (fun x hx => by
    rcases List.mem_cons.1 (hp.mem_iff.1 hx) with rfl | hx
    ·exact hi
    ·exact hin x hx)
   refine ⟨T, t1, t2, t3.trans ?_⟩
   rw [show liveF (e :: l) i = i :: liveF l (i + 1) from by simp [liveF, hv]]
   refine (List.Perm.append_right _ hp).trans ?_
   exact (List.perm_middle (l₁ := S) (l₂ := liveF l (i + 1)) (a := i)).symm
theorem sortF_pick (L : List EZ) : sortF L = pickF L (orderF L) := by
 obtain ⟨T, t1, t2, t3⟩ := sort_same L L 0 [] rfl List.Pairwise.nil (fun x h => by cases h) (fun x h => by cases h)
 have h := stableF_ok (lastK L) (liveF L 0) (liveF_inc L 0)
 have e : T = orderF L := srt_unique t2 h.2 (t3.trans h.1.symm)
 rw [← e]
 exact t1
theorem kept_same (L : List EZ) (most : Int) (all : List EZ) : ∀ (ys : List Nat) (i : Nat) (ks : List (List Nat)) (b : Int) (out : List Nat), (∀ x ∈ ys, x < L.length) → (∀ x ∈ out, x < L.length) → all.drop i = pickF L ys → i ≤ all.length → (∀ k, k ∈ ks ↔ aheadF all k i = true) →
  runG most all ys.length i b (pickF L out) = pickF L (keptG L most ys ks b out)
 | [], i, ks, b, out, _, _, _, _, _ => rfl
 | y :: ys, i, ks, b, out, hin, hout, hd, hi, hk => by
  obtain ⟨e, he⟩ : ∃ e, L[y]? = some e := ⟨_, List.getElem?_eq_getElem (hin y (by simp))⟩
  have c1 : pickF L (y :: ys) = e :: pickF L ys := by simp [pickF, he]
  rw [c1] at hd
  have hilt : i < all.length := by
   rcases Nat.lt_or_ge i all.length with h | h
   ·exact h
   ·rw [List.drop_eq_nil_iff.2 h] at hd; cases hd
  have hd2 := List.drop_eq_getElem_cons hilt
  rw [hd] at hd2
  obtain ⟨ha, hl⟩ := List.cons.inj hd2
  have ha : all[i]? = some e := by rw [List.getElem?_eq_getElem hilt, ha]
  have hstep : ∀ k, aheadF all k (i + 1) = (aheadF all k i || decide (e.k = k)) := by
   intro k
   unfold aheadF
   rw [List.take_add_one, ha]
   simp [List.any_append]
  have ol : ((pickF L out).length : Int) = out.length := by
   have : (pickF L out).length = out.length := by
    clear hk hd hd2
    induction out with
    | nil => rfl
    | cons o out ih =>
     obtain ⟨eo, heo⟩ : ∃ e, L[o]? = some e := ⟨_, List.getElem?_eq_getElem (hout o (by simp))⟩
     have : pickF L (o :: out) = eo :: pickF L out := by simp [pickF, heo]
     rw [this, List.length_cons, List.length_cons, ih (fun x hx => hout x (by simp [hx]))]
   rw [this]
  show (match all[i]? with | none => _ | some e => match aheadF all e.k i with | true => runG most all ys.length (i + 1) b (pickF L out) | false => if ((pickF L out).length : Int) ≥ most ∨ (sizeZ e : Int) > b then pickF L out else runG most all ys.length (i + 1) (b - sizeZ e) (pickF L out ++ [e])) = _
  rw [ha]
  simp only
  by_cases hin1 : e.k ∈ ks
  ·rw [(hk e.k).1 hin1]
   rw [show keptG L most (y :: ys) ks b out = keptG L most ys ks b out from by simp only [keptG, he, if_pos hin1]]
   refine kept_same L most all ys (i + 1) ks b out (fun x hx => hin x (by simp [hx])) hout hl.symm (by omega) (fun k => ?_)
   rw [hstep, hk k]
   by_cases e1 : e.k = k
   ·subst e1; simp [(hk e.k).1 hin1]
   ·simp [e1]
  ·have hf : aheadF all e.k i = false := by
    cases hq : aheadF all e.k i with
    | false => rfl
    | true => exact absurd ((hk e.k).2 hq) hin1
   rw [hf]
   simp only
   rw [ol]
   by_cases hc : (out.length : Int) ≥ most ∨ (sizeZ e : Int) > b
   ·rw [if_pos hc, show keptG L most (y :: ys) ks b out = out from by simp only [keptG, he, if_neg hin1, if_pos hc]]
   ·rw [if_neg hc, show keptG L most (y :: ys) ks b out = keptG L most ys (ks ++ [e.k]) (b - sizeZ e) (out ++ [y]) from by simp only [keptG, he, if_neg hin1, if_neg hc], ← pickF_snoc L out y e he]
    refine kept_same L most all ys (i + 1) (ks ++ [e.k]) (b - sizeZ e) (out ++ [y]) (fun x hx => hin x (by simp [hx])) (fun x hx => ?_) hl.symm (by omega) (fun k => ?_)
    ·rcases List.mem_append.1 hx with hx | hx
     ·exact hout x hx
     ·simp at hx; subst hx; exact hin x (by simp)
    ·rw [hstep, List.mem_append, hk k]
     rw [List.mem_singleton]
     cases aheadF all k i with
     | true => simp
     | false =>
      rw [Bool.false_or, decide_eq_true_eq]
      exact ⟨fun h => h.elim (fun h => by cases h) (fun h => h.symm), fun h => .inr h.symm⟩
theorem run_same (L : List EZ) (most bytes : Int) : runP L most bytes = runR L most bytes := by
 have hin : ∀ x ∈ orderF L, x < L.length := (order_good L).2
 unfold runR runP keptF
 by_cases h : most < 0 ∨ bytes < 0
 ·rw [if_pos h]
  cases ho : orderF L with
  | nil => rfl
  | cons y ys =>
   obtain ⟨e, he⟩ : ∃ e, L[y]? = some e := ⟨_, List.getElem?_eq_getElem (hin y (by rw [ho]; simp))⟩
   have hc : (([] : List Nat).length : Int) ≥ most ∨ (sizeZ e : Int) > bytes := by
    rcases h with h | h
    ·left; simp; omega
    ·right; omega
   rw [show keptG L most (y :: ys) [] bytes [] = [] from by simp only [keptG, he, if_neg (List.not_mem_nil), if_pos hc]]
   rfl
 ·rw [if_neg h]
  have hlen : (sortF L).length = (orderF L).length := by
   rw [sortF_pick]
   generalize orderF L = l at hin
   induction l with
   | nil => rfl
   | cons o out ih =>
    obtain ⟨eo, heo⟩ : ∃ e, L[o]? = some e := ⟨_, List.getElem?_eq_getElem (hin o (by simp))⟩
    have : pickF L (o :: out) = eo :: pickF L out := by simp [pickF, heo]
    rw [this, List.length_cons, List.length_cons, ih (fun x hx => hin x (by simp [hx]))]
  rw [hlen]
  exact (kept_same L most (sortF L) (orderF L) 0 [] bytes [] hin (fun x h => by cases h) (by rw [List.drop_zero]; exact sortF_pick L) (Nat.zero_le _) (fun k => by simp [aheadF])).symm
end Go.VM
