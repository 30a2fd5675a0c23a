/- laid for this seat: RcXl VyA VyB VyC VyD VyE VyF VyG VyK VyL -/
import Derived.Test.YtipiffhjilidlaaDoorVmR
import Derived.Test.YtipiffhjilidlaaDoorProg
import Derived.ProofKit
import Derived.Test.YtipiffhjilidlaaDoorVg6
import Derived.Test.YtipiffhjilidlaaDoorVg2
section
set_option maxRecDepth 100000
namespace Go.VM
open Go.RowKit
end Go.VM
end
section
/- Expressions of a text: the tokens of a text lie one behind the other. -/
set_option maxRecDepth 100000
set_option linter.unusedVariables false
set_option linter.unusedSimpArgs false
namespace Go.VM
open Go.RowKit
def toZ (t : Tk) : Tz := ⟨t.kind, t.a, t.e, t.text⟩
theorem aCu (l : List Tk) : l.map gT = (l.map toZ).map dK := by rw [List.map_map]; rfl
theorem aVi {s : List Nat} {i c : Nat} (h : (dR s i c).2 = 0) : (dR s i c).1.a = i ∧ (dR s i c).1.kind ≤ 5 := by
 cases hL : eR c with
 | true =>
  rw [iD hL]
  refine ⟨rfl, ?_⟩
  dsimp only
  split <;> decide
 | false =>
 cases hD : dD c with
 | true => rw [jB hL hD]; exact ⟨rfl, by show 2 ≤ 5; decide⟩
 | false =>
 by_cases h34 : c = 34
 ·rw [kM hL hD h34] at h ⊢
  unfold sU at h ⊢
  split at h
  ·cases h
  ·exact ⟨rfl, by show 3 ≤ 5; decide⟩
 cases hp : (dM (s.drop i) [61, 61] || dM (s.drop i) [38, 38]) with
 | true => rw [mS hL hD h34 hp]; exact ⟨rfl, by show 4 ≤ 5; decide⟩
 | false => rw [jH hL hD h34 hp]; exact ⟨rfl, by show 4 ≤ 5; decide⟩
def Tl (N : Nat) : Nat → List Tk → Prop
 | _, [] => False
 | i, [t] => t = ⟨0, N, N, []⟩ ∧ i ≤ N
 | i, t :: u :: r => i ≤ t.a ∧ t.a < t.e ∧ t.e ≤ N ∧ t.text.length ≤ N ∧ Tl N t.e (u :: r)
theorem Tl.cons {N i : Nat} {t : Tk} {r : List Tk} (h1 : i ≤ t.a) (h2 : t.a < t.e) (h3 : t.e ≤ N) (h4 : t.text.length ≤ N) (h : Tl N t.e r) : Tl N i (t :: r) := by
 cases r with
 | nil => exact h.elim
 | cons u r => exact ⟨h1, h2, h3, h4, h⟩
theorem Tl.le {N i j : Nat} {r : List Tk} (h : Tl N i r) (hj : j ≤ i) : Tl N j r := by
 match r, h with
 | [t], h => exact ⟨h.1, Nat.le_trans hj h.2⟩
 | t :: u :: r, h => exact ⟨Nat.le_trans hj h.1, h.2⟩
theorem aRi (s : List Nat) : ∀ (m i : Nat) (l T : List Tk) (x : Nat), i ≤ s.length → s.length + 1 ≤ m + i → lZ s m i l = (T, x, 0) → ∃ r, T = l ++ r ∧ Tl s.length i r := by
 intro m
 induction m with
 | zero => intro i l T x h1 h2; omega
 | succ m ih =>
  intro i l T x h1 h2 h
  simp only [lZ] at h
  cases hc : s[i]? with
  | none =>
   rw [hc] at h
   cases h
   have : s.length ≤ i := List.getElem?_eq_none_iff.1 hc
   exact ⟨[kP s], rfl, rfl, h1⟩
  | some c =>
   rw [hc] at h
   simp only [aFg] at h
   split at h
   ·rename_i t ht
    have h0 : (dR s i c).1 = t := by rw [Prod.mk.injEq] at ht; exact ht.1
    have hz : (dR s i c).2 = 0 := by
     rw [Prod.mk.injEq] at ht
     have h2 := ht.2
     split at h2
     ·cases h2
     ·exact h2
    have hp := aCx hc hz
    have ha := aVi hz
    rw [h0] at hp ha
    obtain ⟨r, hr, htl⟩ := ih _ _ _ _ (mP s _ _ hp.2.1) (by have := qJ s (s.length + 1) t.e; omega) h
    refine ⟨{ t with text := (s.drop i).take (t.e - i) } :: r, by rw [hr]; simp, ?_⟩
    refine Tl.cons (by show i ≤ t.a; omega) (by show t.a < t.e; omega) hp.2.1 ?_ (htl.le (qJ s _ _))
    show ((s.drop i).take (t.e - i)).length ≤ _
    rw [List.length_take, List.length_drop]
    omega
   ·rename_i h3; cases h
theorem aRw {s : List Nat} {T : List Tk} {x : Nat} (h : bV s = (T, x, 0)) : Tl s.length 0 T := by
 obtain ⟨r, hr, ht⟩ := aRi s _ _ _ _ _ (mP s _ _ (Nat.zero_le _)) (by omega) h
 rw [hr]
 exact ht.le (Nat.zero_le _)
structure GoodT (N : Nat) (l : List Tz) : Prop where
 pos : 1 ≤ l.length
 last : ∀ t, l[l.length - 1]? = some t → t = ⟨0, N, N, []⟩
 tok : ∀ i t, l[i]? = some t → i + 1 < l.length → 0 ≤ t.a ∧ t.a < t.e ∧ t.e ≤ (N : Int) ∧ t.t.length ≤ N
 next : ∀ i t u, l[i]? = some t → l[i + 1]? = some u → t.e ≤ u.a
theorem Tl.cW {N : Nat} : ∀ {i : Nat} {r : List Tk}, Tl N i r → GoodT N (r.map toZ) ∧ ∀ t, (r.map toZ)[0]? = some t → (i : Int) ≤ t.a
 | i, [t], h => by
  obtain ⟨rfl, h2⟩ := h
  refine ⟨⟨Nat.le_refl _, fun t ht => by simpa [toZ] using ht.symm, fun j t ht hj => ?_, fun j t u ht hu => ?_⟩, fun t ht => ?_⟩
  ·simp at hj
  ·simp at hu
  ·simp [toZ] at ht
   subst ht
   show (i : Int) ≤ (N : Int)
   omega
 | i, t :: u :: r, h => by
  obtain ⟨h1, h2, h3, h4, h5⟩ := h
  obtain ⟨g, g0⟩ := Tl.cW h5
  refine ⟨⟨by simp, fun x hx => ?_, fun j x hx hj => ?_, fun j x y hx hy => ?_⟩, fun x hx => ?_⟩
  ·refine g.last x ?_
   have e : ((t :: u :: r).map toZ).length - 1 = (((u :: r).map toZ).length - 1) + 1 := by simp
   rw [e, List.map_cons, List.getElem?_cons_succ] at hx
   exact hx
  ·cases j with
   | zero =>
    simp only [List.map_cons, List.getElem?_cons_zero, Option.some.injEq] at hx
    subst hx
    simp only [toZ]
    omega
   | succ j =>
    rw [List.map_cons, List.getElem?_cons_succ] at hx
    exact g.tok j x hx (by simp at hj ⊢; omega)
  ·cases j with
   | zero =>
    simp only [List.map_cons, List.getElem?_cons_zero, Option.some.injEq] at hx
    subst hx
    rw [List.map_cons, List.getElem?_cons_succ] at hy
    exact g0 y hy
   | succ j =>
    rw [List.map_cons, List.getElem?_cons_succ] at hx hy
    exact g.next j x y hx hy
  ·simp only [List.map_cons, List.getElem?_cons_zero, Option.some.injEq] at hx
   subst hx
   simp only [toZ]
   omega
theorem aLp {s : List Nat} {T : List Tk} {x : Nat} (h : bV s = (T, x, 0)) : GoodT s.length (T.map toZ) := (aRw h).cW.1
end Go.VM
end
section
/- Expressions of a text: parts lie within, one behind the other. -/
set_option maxRecDepth 100000
set_option linter.unusedVariables false
set_option linter.unusedSimpArgs false
namespace Go.VM
open Go.RowKit
theorem aAi {l : List Tz} {i : Nat} (h : i < l.length) : l[i]? = some (aC l i) := by
 rw [aC, List.getElem?_eq_getElem h]
section
variable {N : Nat} {l : List Tz}
theorem GoodT.kind (g : GoodT N l) {i : Nat} (h : (aC l i).k ≠ 0) : i + 1 < l.length := by
 have h1 := cQ h
 rcases Nat.lt_or_ge (i + 1) l.length with q | q
 ·exact q
 ·have := g.last (aC l i) (by rw [show l.length - 1 = i by omega]; exact aAi h1)
  rw [this] at h; exact absurd rfl h
theorem GoodT.lt (g : GoodT N l) {i : Nat} (h : i + 1 < l.length) : (aC l i).a < (aC l i).e := (g.tok i _ (aAi (by omega)) h).2.1
theorem GoodT.step (g : GoodT N l) {i : Nat} (h : i + 1 < l.length) : (aC l i).e ≤ (aC l (i + 1)).a := g.next i _ _ (aAi (by omega)) (aAi h)
theorem GoodT.sorted (g : GoodT N l) : ∀ {i j : Nat}, i < j → j < l.length → (aC l i).e ≤ (aC l j).a := by
 intro i j
 induction j with
 | zero => intro h; omega
 | succ j ih =>
  intro h1 h2
  have h3 := g.step (i := j) h2
  rcases Nat.lt_or_ge i j with q | q
  ·have := ih q (by omega)
   have := g.lt (i := j) h2
   omega
  ·have : i = j := by omega
   subst this; exact h3
theorem GoodT.mono (g : GoodT N l) {i j : Nat} (h : i ≤ j) (hj : j < l.length) : (aC l i).a ≤ (aC l j).a := by
 rcases Nat.eq_or_lt_of_le h with e | e
 ·rw [e]; omega
 ·have := g.sorted e hj
  have := g.lt (i := i) (by omega)
  omega
end
mutual
def bAf : Ex → Prop
 | .mk _ a e _ _ _ args => chain a args e
def chain : Int → List Ex → Int → Prop
 | lo, [], hi => lo ≤ hi
 | lo, x :: r, hi => lo ≤ x.at' ∧ x.at' < x.en ∧ bAf x ∧ chain x.en r hi
end
theorem chain.up : ∀ {r : List Ex} {lo hi hi' : Int}, chain lo r hi → hi ≤ hi' → chain lo r hi'
 | [], lo, hi, hi', h, k => by
  have h : lo ≤ hi := h
  show lo ≤ hi'; omega
 | x :: r, lo, hi, hi', h, k => ⟨h.1, h.2.1, h.2.2.1, chain.up h.2.2.2 k⟩
theorem aX {α β : Type} {r : R α} {f : α → Nat → R β} {v : β} {a : Nat} (h : r.bind f = .ok v a) : ∃ x a1, r = .ok x a1 ∧ f x a1 = .ok v a := by
 cases r with
 | ok x a1 => exact ⟨x, a1, rfl, h⟩
 | er _ _ _ _ => cases h
 | out => cases h
theorem bY {α : Type} {l : List Tz} {a d : Nat} {f : Nat → Nat → R α} {v : α} {a' : Nat} (h : aY l a d f = .ok v a') : f (a + 1) (d + 1) = .ok v a' := by
 unfold aY at h
 split at h
 ·cases h
 ·exact h
theorem fT {l : List Tz} {a d : Nat} {s : List Nat} {e : Int} {a1 : Nat} (h : cJ l a d s = .ok e a1) : e = (aC l a).e ∧ a1 = a + 1 ∧ (aC l a).k = 4 := by
 unfold cJ at h
 split at h
 ·rename_i hi
  cases h
  unfold isF at hi
  simp only [Bool.and_eq_true, decide_eq_true_eq] at hi
  exact ⟨rfl, rfl, hi.1⟩
 ·cases h
theorem aXg {l : List Tz} {a : Nat} {k : Int} {s : List Nat} (h : isF l a k s = true) : (aC l a).k = k := by
 unfold isF at h
 simp only [Bool.and_eq_true, decide_eq_true_eq] at h
 exact h.1
section
variable {N : Nat} {l : List Tz}
end
end Go.VM
end
section
/- Expressions of a text: where it is wrong. -/
set_option maxRecDepth 100000
set_option linter.unusedVariables false
set_option linter.unusedSimpArgs false
namespace Go.VM
open Go.RowKit
def ErrP {α : Type} (N : Nat) (r : R α) : Prop := ∀ a d p c, r = .er a d p c → 0 ≤ p ∧ p ≤ (N : Int) ∧ c ≠ 0
theorem ErrP.ok {α : Type} {N : Nat} {v : α} {a : Nat} : ErrP N (R.ok v a) := fun _ _ _ _ e => by cases e
section
variable {N : Nat} {l : List Tz}
end
end Go.VM
end
section
/- Expressions of a text: the law's own search. -/
set_option maxRecDepth 100000
set_option linter.unusedVariables false
set_option linter.unusedSimpArgs false
namespace Go.VM
open Go.RowKit
end Go.VM
end
section
/- Expressions of a text: the law ExprxLies. -/
set_option maxRecDepth 100000
set_option linter.unusedVariables false
set_option linter.unusedSimpArgs false
namespace Go.VM
open Go.RowKit
theorem aOd (s : List Nat) (h8 : ∀ c ∈ s, c < 256) (hl : s.length < big) : SCall Go.Proofs.Tryd.prog [0] 12 [.str s] none ⟨1000, og tOl, []⟩ (.ret (aBx s)) none ⟨1000, og tOl, []⟩ := by
 refine SCall.trim (aKp s h8 hl) rfl (Nat.le_refl _) (fun b hb => ?_) (fun b _ => rfl) (fun b _ => .inl rfl) ((aRj (D := (· < 1000)) s).bG)
 exact cV (N := 1000) rfl b hb
end Go.VM
end
section
/- Expressions of a text: the law ExprxLies, walked. -/
set_option maxRecDepth 100000
set_option linter.unusedVariables false
set_option linter.unusedSimpArgs false
namespace Go.VM
open Go.RowKit
theorem aLw (s : List Nat) : ∀ (m i : Nat) (l T : List Tk) (x : Nat), l.length ≤ 4000 → lZ s m i l = (T, x, 0) → T.length ≤ 4001 := by
 intro m
 induction m with
 | zero => intro i l T x hl h; simp only [lZ, Prod.mk.injEq] at h; rw [← h.1]; omega
 | succ m ih =>
  intro i l T x hl h
  simp only [lZ] at h
  split at h
  ·cases h; simp; omega
  ·simp only [aFg] at h
   split at h
   ·rename_i t ht
    rw [Prod.mk.injEq] at ht
    have h2 := ht.2
    split at h2
    ·cases h2
    ·exact ih _ _ _ _ (by simp; omega) h
   ·cases h
end Go.VM
end
section
/- Expressions of a text: the calls at the head of the laws. -/
set_option maxRecDepth 100000
set_option linter.unusedVariables false
set_option linter.unusedSimpArgs false
namespace Go.VM
open Go.RowKit
def s1 : List Nat := [97, 43, 98, 42, 99, 59]
def s2 : List Nat := [102, 40, 44, 41]
def Z1 : List Tz := [⟨1, 0, 1, [97]⟩, ⟨4, 1, 2, [43]⟩, ⟨1, 2, 3, [98]⟩, ⟨4, 3, 4, [42]⟩, ⟨1, 4, 5, [99]⟩, ⟨4, 5, 6, [59]⟩, ⟨0, 6, 6, []⟩]
def Z2 : List Tz := [⟨1, 0, 1, [102]⟩, ⟨4, 1, 2, [40]⟩, ⟨4, 2, 3, [44]⟩, ⟨4, 3, 4, [41]⟩, ⟨0, 4, 4, []⟩]
end Go.VM
end
section
/- Expressions: the same tokens elsewhere, or one bracket deeper, give the same expression, moved. -/
set_option maxRecDepth 100000
set_option linter.unusedVariables false
set_option linter.unusedSimpArgs false
namespace Go.VM
open Go.RowKit
structure ProgF (f : Fns) : Prop where
 expr : ∀ lv a d x a', f.expr lv a d = .ok x a' → a < a'
 oper : ∀ a d x a', f.oper a d = .ok x a' → a < a'
 prim : ∀ a d x a', f.prim a d = .ok x a' → a < a'
 list : ∀ to a d r a', f.list to a d = .ok r a' → a < a'
 bin : ∀ lv x a d y a', f.bin lv x a d = .ok y a' → a ≤ a'
 post : ∀ x a d y a', f.post x a d = .ok y a' → a ≤ a'
 elts : ∀ acc a d es a', f.elts acc a d = .ok es a' → a < a'
theorem vS {l : List Tz} {f : Fns} {p : Int} {a d : Nat} {x : Ex} {a' : Nat} (e : oO l f p a d = .ok x a') :
  ∃ ty a1 r, tyF l (a + 1) = .ok ty a1 ∧ isF l a1 4 [123] = true ∧ f.list [125] a1 d = .ok r a' ∧ x = .mk 8 p r.2 [] 0 ty r.1 := by
 unfold oO at e
 split at e
 ·rename_i ty a1 ht
  split at e
  ·rename_i hi
   obtain ⟨r, a2, e1, e2⟩ := aX e
   cases e2
   exact ⟨ty, a1, r, ht, hi, e1, rfl⟩
  ·cases e
 ·cases e
 ·cases e
theorem pE {l : List Tz} {f : Fns} (h : ProgF f) {to : List Nat} {a d : Nat} {es : List Ex} {a' : Nat} (e : eF l f to a d = .ok es a') : a ≤ a' := by
 unfold eF at e
 split at e
 ·cases e; exact Nat.le_refl _
 ·exact Nat.le_of_lt (h.elts _ _ _ _ _ e)
theorem xO {l : List Tz} {f : Fns} (h : ProgF f) : ProgF ⟨dX f, eI l f, eG l f, dZ l f, jI l f, fB l f, eT l f⟩ := by
 refine ⟨fun lv a d x a' e => ?_, fun a d x a' e => ?_, fun a d x a' e => ?_, fun to a d r a' e => ?_, fun lv x a d y a' e => ?_, fun x a d y a' e => ?_, fun acc a d es a' e => ?_⟩
 ·have e : dX f lv a d = .ok x a' := e
  unfold dX at e
  split at e
  ·exact h.oper _ _ _ _ e
  ·obtain ⟨y, a1, e1, e2⟩ := aX e
   have := h.expr _ _ _ _ _ e1
   have := h.bin _ _ _ _ _ _ e2
   omega
 ·have e : eI l f a d = .ok x a' := e
  unfold eI at e
  split at e
  ·obtain ⟨y, a1, e1, e2⟩ := aX e
   cases e2
   have := h.oper _ _ _ _ (bY e1)
   omega
  ·obtain ⟨y, a1, e1, e2⟩ := aX e
   have := h.prim _ _ _ _ e1
   have := h.post _ _ _ _ _ e2
   omega
 ·have e : eG l f a d = .ok x a' := e
  unfold eG at e
  split at e
  ·obtain ⟨n, a1, e1, e2⟩ := aX e
   cases e2
   exact Nat.lt_succ_self _
  ·split at e
   ·split at e
    ·cases e; exact Nat.lt_succ_self _
    ·cases e
   ·split at e
    ·cases e; exact Nat.lt_succ_self _
    ·split at e
     ·cases e; exact Nat.lt_succ_self _
     ·split at e
      ·cases e; exact Nat.lt_succ_self _
      ·split at e
       ·obtain ⟨y, a1, e1, e2⟩ := aX e
        obtain ⟨z, a2, e3, e4⟩ := aX e2
        cases e4
        have := h.expr _ _ _ _ _ (bY e1)
        have := (fT e3).2.1
        omega
       ·split at e
        ·obtain ⟨ty, a1, r, ht, hi, e1, _⟩ := vS e
         have := pO ht
         have := h.list _ _ _ _ _ e1
         omega
        ·cases e
 ·have e : dZ l f to a d = .ok r a' := e
  unfold dZ at e
  obtain ⟨es, a1, e1, e2⟩ := aX e
  obtain ⟨z, a3, e3, e4⟩ := aX e2
  cases e4
  have := pE h (bY e1)
  have := (fT e3).2.1
  omega
 ·have e : jI l f lv x a d = .ok y a' := e
  unfold jI at e
  split at e
  ·obtain ⟨z, a2, e1, e2⟩ := aX e
   have := h.expr _ _ _ _ _ e1
   have := h.bin _ _ _ _ _ _ e2
   omega
  ·cases e; exact Nat.le_refl _
 ·have e : fB l f x a d = .ok y a' := e
  unfold fB at e
  split at e
  ·split at e
   ·have := h.post _ _ _ _ _ e; omega
   ·cases e
  ·split at e
   ·obtain ⟨r, a1, e1, e2⟩ := aX e
    have := h.list _ _ _ _ _ e1
    have := h.post _ _ _ _ _ e2
    omega
   ·split at e
    ·obtain ⟨z, a1, e1, e2⟩ := aX e
     obtain ⟨w, a2, e3, e4⟩ := aX e2
     have := h.expr _ _ _ _ _ (bY e1)
     have := (fT e3).2.1
     have := h.post _ _ _ _ _ e4
     omega
    ·cases e; exact Nat.le_refl _
 ·have e : eT l f acc a d = .ok es a' := e
  unfold eT at e
  obtain ⟨x, a1, e1, e2⟩ := aX e
  have := h.expr _ _ _ _ _ e1
  split at e2
  ·have := h.elts _ _ _ _ _ e2; omega
  ·cases e2; omega
theorem nC (l : List Tz) : ∀ n, ProgF (fns l n)
 | 0 => ⟨fun _ _ _ _ _ e => (by cases e), fun _ _ _ _ e => (by cases e), fun _ _ _ _ e => (by cases e), fun _ _ _ _ _ e => (by cases e), fun _ _ _ _ _ _ e => (by cases e), fun _ _ _ _ _ e => (by cases e), fun _ _ _ _ _ e => (by cases e)⟩
 | n + 1 => xO (nC l n)
def shZ (by' : Int) (t : Tz) : Tz := ⟨t.k, t.a + by', t.e + by', t.t⟩
mutual
def shT (by' : Int) : Tx → Tx
 | .mk k a p n l => .mk k (a + by') p n (aKq by' l)
def aKq (by' : Int) : List Tx → List Tx
 | [] => []
 | x :: l => shT by' x :: aKq by' l
end
mutual
def shX (by' : Int) : Ex → Ex
 | .mk k a e nm n t args => .mk k (a + by') (e + by') nm n (match Nat.beq k 8 with | true => shT by' t | false => t) (mK by' args)
def mK (by' : Int) : List Ex → List Ex
 | [] => []
 | x :: l => shX by' x :: mK by' l
end
theorem aCn (b : Int) : ∀ l m : List Ex, mK b (l ++ m) = mK b l ++ mK b m
 | [], m => rfl
 | x :: l, m => by simp only [mK, List.cons_append, aCn b l m]
theorem aOb (b : Int) : ∀ x : Ex, (shX b x).at' = x.at' + b
 | .mk .. => rfl
theorem aMx (b : Int) : ∀ x : Ex, (shX b x).en = x.en + b
 | .mk .. => rfl
def Rl {α : Type} (n k dd : Nat) (sh : α → α) (r r' : R α) : Prop := ∀ v a', r = .ok v a' → a' ≤ n → r' = .ok (sh v) (a' + k) ∨ (0 < dd ∧ ∃ a1 d1 p, r' = .er a1 d1 p 6)
section
variable {n k dd : Nat}
theorem Rl.ok {α : Type} {sh : α → α} {v : α} {a : Nat} {r' : R α} (h : a ≤ n → r' = .ok (sh v) (a + k)) : Rl n k dd sh (.ok v a) r' := by
 intro w a' e ha
 cases e
 exact .inl (h ha)
theorem Rl.er {α : Type} {sh : α → α} {a d : Nat} {p c : Int} {r' : R α} : Rl n k dd sh (.er a d p c) r' := fun _ _ e => by cases e
theorem Rl.out {α : Type} {sh : α → α} {r' : R α} : Rl n k dd sh .out r' := fun _ _ e => by cases e
theorem Rl.bind {α β : Type} {s1 : α → α} {s2 : β → β} {r r' : R α} {f f' : α → Nat → R β} (h : Rl n k dd s1 r r') (p : ∀ v a1 w a', r = .ok v a1 → f v a1 = .ok w a' → a1 ≤ a')
  (q : ∀ v a1, r = .ok v a1 → a1 ≤ n → Rl n k dd s2 (f v a1) (f' (s1 v) (a1 + k))) : Rl n k dd s2 (r.bind f) (r'.bind f') := by
 intro w a' e ha
 obtain ⟨v, a1, e1, e2⟩ := aX e
 have hp := p v a1 w a' e1 e2
 rcases h v a1 e1 (by omega) with h1 | ⟨h0, x, y, z, h1⟩
 ·rw [h1]
  exact q v a1 e1 (by omega) w a' e2 ha
 ·rw [h1]
  exact .inr ⟨h0, x, y, z, rfl⟩
theorem Rl.within {α : Type} {sh : α → α} {l l' : List Tz} {a d : Nat} {f f' : Nat → Nat → R α} (h : Rl n k dd sh (f (a + 1) (d + 1)) (f' (a + 1 + k) (d + 1 + dd))) : Rl n k dd sh (aY l a d f) (aY l' (a + k) (d + dd) f') := by
 intro v a' e ha
 have e1 := bY e
 by_cases h30 : d + dd = 30
 ·refine .inr ⟨?_, a + k, d + dd, (aC l' (a + k)).a, ?_⟩
  ·rcases Nat.eq_zero_or_pos dd with h0 | h0
   ·subst h0
    unfold aY at e
    rw [if_pos (by omega)] at e
    cases e
   ·exact h0
  ·unfold aY
   rw [if_pos h30]
   rfl
 ·unfold aY
  rw [if_neg h30, show a + k + 1 = a + 1 + k by omega, show d + dd + 1 = d + 1 + dd by omega]
  exact h v a' e1 ha
def jX (t : Tz) : Bool := !decide (t.k = 4) || (Nat.beq (lev t.t) 0 && !decide (t.t = [46]) && !decide (t.t = [40]) && !decide (t.t = [91]) && !decide (t.t = [44]))
structure Same (lo n k : Nat) (b : Int) (l l' : List Tz) : Prop where
 tok : ∀ i, lo ≤ i → i < n → aC l' (i + k) = shZ b (aC l i)
 stop : jX (aC l' (n + k)) = true
variable {lo : Nat} {b : Int} {l l' : List Tz}
theorem Same.is (s : Same lo n k b l l') {i : Nat} (h0 : lo ≤ i) (h : i < n) (kk : Int) (x : List Nat) : isF l' (i + k) kk x = isF l i kk x := by
 unfold isF
 rw [s.tok i h0 h]
 rfl
theorem aPc {t : Tz} (h : jX t = true) {x : List Nat} (hx : x = [46] ∨ x = [40] ∨ x = [91] ∨ x = [44]) : iK t x = false := by
 cases hs : iK t x with
 | false => rfl
 | true =>
  unfold iK at hs
  simp only [Bool.and_eq_true, decide_eq_true_eq] at hs
  unfold jX at h
  rw [hs.1, hs.2] at h
  rcases hx with rfl | rfl | rfl | rfl <;> cases h
theorem Same.isS (s : Same lo n k b l l') {x : List Nat} (hx : x = [46] ∨ x = [40] ∨ x = [91] ∨ x = [44]) : isF l' (n + k) 4 x = false := aPc s.stop hx
theorem Same.bin (s : Same lo n k b l l') {i lv : Nat} (h0 : lo ≤ i) (h : i < n) : qV lv (aC l' (i + k)) = qV lv (aC l i) := by
 rw [s.tok i h0 h]; rfl
theorem Same.bAi (s : Same lo n k b l l') {lv : Nat} (h : 1 ≤ lv) : qV lv (aC l' (n + k)) = false := by
 cases hb : qV lv (aC l' (n + k)) with
 | false => rfl
 | true =>
  unfold qV at hb
  simp only [Bool.and_eq_true, decide_eq_true_eq] at hb
  have := s.stop
  unfold jX at this
  rw [hb.1] at this
  simp only [decide_true, Bool.not_true, Bool.false_or, Bool.and_eq_true] at this
  have := Nat.eq_of_beq_eq_true this.1.1.1.1
  have := hb.2
  omega
theorem Same.mM (s : Same lo n k b l l') {a d : Nat} {x : List Nat} (h0 : lo ≤ a) : Rl n k dd (· + b) (cJ l a d x) (cJ l' (a + k) (d + dd) x) := by
 intro v a' e ha
 obtain ⟨h1, h2, h3⟩ := fT e
 have hlt : a < n := by omega
 unfold cJ at e ⊢
 rw [s.is h0 hlt]
 split at e
 ·cases e
  refine .inl ?_
  rw [s.tok a h0 hlt]
  show R.ok ((aC l a).e + b) (a + k + 1) = _
  rw [show a + k + 1 = a + 1 + k by omega]
 ·cases e
theorem Same.aSx (s : Same lo n k b l l') : ∀ (m a : Nat) (ls : List Int) (a' : Nat) (ls' : List Int), lo ≤ a → cO l m a ls = .brk a' ls' → a' < n → cO l' m (a + k) (ls.map (· + b)) = .brk (a' + k) (ls'.map (· + b))
 | 0, a, ls, a', ls', h0, h, ha => by
  simp only [cO] at h ⊢
  split at h
  ·rename_i hs
   cases h
   have := s.is h0 ha 4 [91]
   rw [nQ, nQ] at this
   rw [this, hs]
  ·cases h
 | m + 1, a, ls, a', ls', h0, h, ha => by
  have hf := (jE l (m + 1) a ls a' ls' h).1
  simp only [cO] at h ⊢
  have h1 := s.is (i := a) h0 (by omega) 4 [91]
  rw [nQ, nQ] at h1
  split at h
  ·rename_i hs
   cases h
   rw [h1, hs]
  ·rename_i hs
   rw [h1, hs]
   simp only
   split at h
   ·cases h
   ·rename_i hs2
    have hf2 := (jE l m _ _ _ _ h).1
    have h2 := s.is (i := a + 1) (by omega) (by omega) 4 [93]
    rw [nQ, nQ] at h2
    rw [show a + k + 1 = a + 1 + k by omega, h2, hs2]
    simp only
    have := Same.aSx s m (a + 2) (ls ++ [(aC l a).a]) a' ls' (by omega) h ha
    rw [show a + k + 2 = a + 2 + k by omega, ← this, s.tok a h0 (by omega)]
    simp [shZ]
theorem Same.base (s : Same lo n k b l l') {a : Nat} {x : Tx} {a2 : Nat} (h0 : lo ≤ a) (h : gC l a = .ok x a2) (ha : a2 + 1 < n) : gC l' (a + k) = .ok (shT b x) (a2 + k) := by
 have hf := (oY h).1
 unfold gC at h ⊢
 have e0 := s.tok a h0 (by omega)
 have e1 := s.tok (a + 1) (by omega) (by omega)
 rw [e0, show a + k + 1 = a + 1 + k by omega, e1, show a + k + 2 = a + 2 + k by omega]
 simp only [show ∀ t : Tz, (shZ b t).k = t.k from fun _ => rfl, show ∀ t : Tz, (shZ b t).t = t.t from fun _ => rfl, show ∀ t : Tz, (shZ b t).a = t.a + b from fun _ => rfl, show ∀ (t : Tz) x, iK (shZ b t) x = iK t x from fun _ _ => rfl]
 split at h
 ·rename_i hc
  cases h
  try rw [hc]
  rfl
 ·rename_i hc
  try rw [hc]
  try simp only
  split at h
  ·rename_i hc
   try rw [hc]
   try simp only
   split at h
   ·rename_i hc
    try rw [hc]
    try simp only
    split at h
    ·rename_i hc
     cases h
     rw [s.tok (a + 2) (by omega) (by omega)]
     simp only [show ∀ t : Tz, (shZ b t).k = t.k from fun _ => rfl, show ∀ t : Tz, (shZ b t).t = t.t from fun _ => rfl]
     try rw [hc]
     simp [shT, aKq]
    ·cases h
   ·rename_i hc
    cases h
    try rw [hc]
    rfl
  ·cases h
theorem aBj (b : Int) : ∀ (ls : List Int) (x : Tx), shT b (gB ls x) = gB (ls.map (· + b)) (shT b x)
 | [], x => rfl
 | p :: ls, x => by simp only [gB, List.map_cons, shT, aKq, aBj b ls x]
theorem Same.ty (s : Same lo n k b l l') {a : Nat} {x : Tx} {a2 : Nat} (h0 : lo ≤ a) (h : tyF l a = .ok x a2) (ha : a2 < n) : tyF l' (a + k) = .ok (shT b x) (a2 + k) := by
 unfold tyF at h ⊢
 split at h
 ·cases h
 ·rename_i a1 ls ho
  split at h
  ·rename_i y a3 hb
   cases h
   have h1 := (oY hb).1
   have := s.aSx 30 a [] a1 ls h0 ho (by omega)
   rw [show ([] : List Int).map (· + b) = [] from rfl] at this
   rw [this]
   simp only
   rw [s.base (by have := (jE l 30 a [] a1 ls ho).1; omega) hb (by omega)]
   simp only
   rw [aBj, show a3 + k + 1 = a3 + 1 + k by omega]
  ·cases h
  ·cases h
structure SimF (lo n k dd : Nat) (b : Int) (f f' : Fns) : Prop where
 expr : ∀ lv a d, lo ≤ a → 1 ≤ lv → Rl n k dd (shX b) (f.expr lv a d) (f'.expr lv (a + k) (d + dd))
 oper : ∀ a d, lo ≤ a → Rl n k dd (shX b) (f.oper a d) (f'.oper (a + k) (d + dd))
 prim : ∀ a d, lo ≤ a → Rl n k dd (shX b) (f.prim a d) (f'.prim (a + k) (d + dd))
 list : ∀ to a d, lo ≤ a → Rl n k dd (fun r => (mK b r.1, r.2 + b)) (f.list to a d) (f'.list to (a + k) (d + dd))
 bin : ∀ lv x a d, lo ≤ a → 1 ≤ lv → a ≤ n → Rl n k dd (shX b) (f.bin lv x a d) (f'.bin lv (shX b x) (a + k) (d + dd))
 post : ∀ x a d, lo ≤ a → a ≤ n → Rl n k dd (shX b) (f.post x a d) (f'.post (shX b x) (a + k) (d + dd))
 elts : ∀ acc a d, lo ≤ a → Rl n k dd (mK b) (f.elts acc a d) (f'.elts (mK b acc) (a + k) (d + dd))
theorem Rl.lt {α : Type} {sh : α → α} {r r' : R α} {a : Nat} (hp : ∀ v a', r = .ok v a' → a < a') (h : a < n → Rl n k dd sh r r') : Rl n k dd sh r r' := by
 intro v a' e ha
 have := hp v a' e
 exact h (by omega) v a' e ha
theorem Rl.le {α : Type} {sh : α → α} {r r' : R α} {a : Nat} (hp : ∀ v a', r = .ok v a' → a ≤ a') (h : a ≤ n → Rl n k dd sh r r') : Rl n k dd sh r r' := by
 intro v a' e ha
 have := hp v a' e
 exact h (by omega) v a' e ha
end
end Go.VM
end
section
/- Expressions: the same tokens elsewhere, or one bracket deeper, give the same expression, moved: proved. -/
set_option maxRecDepth 100000
set_option linter.unusedVariables false
set_option linter.unusedSimpArgs false
namespace Go.VM
open Go.RowKit
section
variable {lo n k dd : Nat} {b : Int} {l l' : List Tz}
theorem Same.num (s : Same lo n k b l l') {a d : Nat} (h0 : lo ≤ a) (ha : a < n) : Rl n k dd id (fX l (aC l a).t a d) (fX l' (aC l' (a + k)).t (a + k) (d + dd)) := by
 rw [s.tok a h0 ha]
 unfold fX
 show Rl n k dd id (match sV (aC l a).t with | true => .ok (aAt (aC l a).t : Int) a | false => hH l a d 2) (match sV (aC l a).t with | true => .ok (aAt (aC l a).t : Int) (a + k) | false => hH l' (a + k) (d + dd) 2)
 cases sV (aC l a).t with
 | true => exact .ok fun _ => rfl
 | false => exact .er
theorem kI (b : Int) {kk : Nat} {p e : Int} {nm : List Nat} {v : Int} {args : List Ex} (h : Nat.beq kk 8 = false) : shX b (.mk kk p e nm v zT args) = .mk kk (p + b) (e + b) nm v zT (mK b args) := by
 simp only [shX, h]
theorem aNb (s : Same lo n k b l l') {f f' : Fns} (pf : ProgF f) (h : SimF lo n k dd b f f') (to : List Nat) (a d : Nat) (h0 : lo ≤ a) : Rl n k dd (fun r => (mK b r.1, r.2 + b)) (dZ l f to a d) (dZ l' f' to (a + k) (d + dd)) := by
 intro v a' e ha
 unfold dZ at e ⊢
 obtain ⟨es, a1, e1, e2⟩ := aX e
 obtain ⟨z, a3, e3, e4⟩ := aX e2
 cases e4
 obtain ⟨q1, q2, q3⟩ := fT e3
 have hlt : a1 < n := by omega
 have w : Rl a1 k dd (mK b) (aY l a d (eF l f to)) (aY l' (a + k) (d + dd) (eF l' f' to)) := by
  refine Rl.within ?_
  intro es2 a2 e5 ha2
  have hp := pE pf e5
  unfold eF at e5 ⊢
  rw [s.is (by omega) (by omega)]
  split at e5
  ·cases e5
   exact .inl rfl
  ·exact h.elts [] (a + 1) (d + 1) (by omega) es2 a2 e5 (by omega)
 rcases w es a1 e1 (Nat.le_refl _) with h1 | ⟨h0, x, y, zz, h1⟩
 ·rw [h1]
  have hp0 := pE pf (bY e1)
  have m := s.mM (dd := dd) (by omega) z a' e3 ha
  rcases m with h2 | ⟨h0, x, y, zz, h2⟩
  ·refine .inl ?_
   show (cJ l' (a1 + k) (d + dd) to).bind _ = _
   rw [h2]
   rfl
  ·refine .inr ⟨h0, x, y, zz, ?_⟩
   show (cJ l' (a1 + k) (d + dd) to).bind _ = _
   rw [h2]
   rfl
 ·rw [h1]
  exact .inr ⟨h0, x, y, zz, rfl⟩
theorem aOn (s : Same lo n k b l l') {f f' : Fns} (pf : ProgF f) (h : SimF lo n k dd b f f') (a d : Nat) (h0 : lo ≤ a) (ha : a < n) : Rl n k dd (shX b) (eG l f a d) (eG l' f' (a + k) (d + dd)) := by
 have hn := s.num (dd := dd) (d := d) h0 ha
 unfold eG
 rw [s.is h0 ha, s.is h0 ha, s.is h0 ha, s.is h0 ha]
 rw [s.tok a h0 ha] at hn ⊢
 simp only [show ∀ t : Tz, (shZ b t).k = t.k from fun _ => rfl, show ∀ t : Tz, (shZ b t).t = t.t from fun _ => rfl, show ∀ t : Tz, (shZ b t).a = t.a + b from fun _ => rfl, show ∀ t : Tz, (shZ b t).e = t.e + b from fun _ => rfl] at hn ⊢
 have tk : a + k + 1 = a + 1 + k := by omega
 rw [tk]
 split
 ·refine hn.bind (fun v a1 w a' e1 e2 => ?_) fun v a1 _ _ => .ok fun _ => ?_
  ·cases e2
   unfold fX at e1
   split at e1
   ·cases e1; omega
   ·cases e1
  ·rw [kI b rfl]; rfl
 ·split
  ·split
   ·exact .ok fun _ => by rw [kI b rfl]; rfl
   ·exact .er
  ·split
   ·exact .ok fun _ => by rw [kI b rfl]; rfl
   ·split
    ·exact .ok fun _ => by rw [kI b rfl]; rfl
    ·split
     ·exact .ok fun _ => by rw [kI b rfl]; rfl
     ·split
      ·refine (Rl.within (h.expr 1 (a + 1) (d + 1) (by omega) (Nat.le_refl _))).bind (fun v a1 w a' e1 e2 => ?_) fun x a1 e9 ha1 => (s.mM (a := a1) (d := d) (by have := pf.expr _ _ _ _ _ (bY e9); omega)).bind (fun v a1 w a' e1 e2 => ?_) fun _ a2 _ _ => .ok fun _ => rfl
       ·obtain ⟨z, a2, e3, e4⟩ := aX e2
        cases e4
        have := (fT e3).2.1
        omega
       ·cases e2; exact Nat.le_refl _
      ·split
       ·intro v a' e ha'
        obtain ⟨ty, a1, r, ht, hi, e1, rfl⟩ := vS e
        have p1 := pf.list _ _ _ _ _ e1
        have tf := pO ht
        have tl := s.ty (by omega) ht (by omega)
        unfold oO
        rw [tk, tl]
        simp only
        rw [s.is (by omega) (by omega), hi]
        simp only
        rcases h.list [125] a1 d (by omega) r a' e1 ha' with h2 | ⟨h0, x, y, zz, h2⟩
        ·rw [h2]
         exact .inl rfl
        ·rw [h2]
         exact .inr ⟨h0, x, y, zz, rfl⟩
       ·exact .er
theorem aMd (s : Same lo n k b l l') {f f' : Fns} (pf : ProgF f) (h : SimF lo n k dd b f f') (x : Ex) (a d : Nat) (h0 : lo ≤ a) (ha : a ≤ n) : Rl n k dd (shX b) (fB l f x a d) (fB l' f' (shX b x) (a + k) (d + dd)) := by
 rcases Nat.eq_or_lt_of_le ha with rfl | ha
 ·intro v a' e ha'
  unfold fB at e ⊢
  rw [s.isS (.inl rfl), s.isS (.inr (.inl rfl)), s.isS (.inr (.inr (.inl rfl)))]
  simp only
  split at e
  ·split at e
   ·have := pf.post _ _ _ _ _ e; omega
   ·cases e
  ·split at e
   ·obtain ⟨r, a1, e1, e2⟩ := aX e
    have := pf.list _ _ _ _ _ e1
    have := pf.post _ _ _ _ _ e2
    omega
   ·split at e
    ·obtain ⟨z, a1, e1, e2⟩ := aX e
     obtain ⟨w, a2, e3, e4⟩ := aX e2
     have := pf.expr _ _ _ _ _ (bY e1)
     have := (fT e3).2.1
     have := pf.post _ _ _ _ _ e4
     omega
    ·cases e; exact .inl rfl
 ·unfold fB
  rw [s.is h0 ha, s.is h0 ha, s.is h0 ha, aOb]
  split
  ·intro v a' e ha'
   split at e
   ·rename_i hk
    have hp := pf.post _ _ _ _ _ e
    have e1 := s.tok (a + 1) (by omega) (by omega)
    rw [show a + k + 1 = a + 1 + k by omega, e1]
    simp only [show ∀ t : Tz, (shZ b t).k = t.k from fun _ => rfl, show ∀ t : Tz, (shZ b t).t = t.t from fun _ => rfl, show ∀ t : Tz, (shZ b t).e = t.e + b from fun _ => rfl]
    rw [hk]
    simp only
    have := h.post _ (a + 1 + 1) d (by omega) (by omega) v a' e ha'
    rw [kI b rfl] at this
    rw [show a + 1 + k + 1 = a + 1 + 1 + k by omega]
    exact this
   ·cases e
  ·split
   ·refine (h.list [41] a d h0).bind (fun v a1 w a' e1 e2 => pf.post _ _ _ _ _ e2) fun r a1 e9 ha1 => ?_
    have := h.post (.mk 6 x.at' r.2 [] 0 zT (x :: r.1)) a1 d (by have := pf.list _ _ _ _ _ e9; omega) ha1
    rw [kI b rfl] at this
    exact this
   ·split
    ·refine (Rl.within (h.expr 1 (a + 1) (d + 1) (by omega) (Nat.le_refl _))).bind (fun v a1 w a' e1 e2 => ?_) fun z a1 e9 ha1 => (s.mM (a := a1) (d := d) (by have := pf.expr _ _ _ _ _ (bY e9); omega)).bind (fun v a1 w a' e1 e2 => pf.post _ _ _ _ _ e2) fun e a2 e8 ha2 => ?_
     ·obtain ⟨w, a2, e3, e4⟩ := aX e2
      have := (fT e3).2.1
      have := pf.post _ _ _ _ _ e4
      omega
     ·have := h.post (.mk 7 x.at' e [] 0 zT [x, z]) a2 d (by have := pf.expr _ _ _ _ _ (bY e9); have := (fT e8).2.1; omega) ha2
      rw [kI b rfl] at this
      exact this
    ·exact .ok fun _ => rfl
theorem aNl (s : Same lo n k b l l') {f f' : Fns} (pf : ProgF f) (h : SimF lo n k dd b f f') : SimF lo n k dd b ⟨dX f, eI l f, eG l f, dZ l f, jI l f, fB l f, eT l f⟩ ⟨dX f', eI l' f', eG l' f', dZ l' f', jI l' f', fB l' f', eT l' f'⟩ := by
 have pn := xO (l := l) pf
 refine ⟨fun lv a d h0 hlv => ?_, fun a d h0 => ?_, fun a d h0 => ?_, fun to a d h0 => aNb s pf h to a d h0, fun lv x a d h0 hlv ha => ?_, fun x a d h0 ha => aMd s pf h x a d h0 ha, fun acc a d h0 => ?_⟩
 ·show Rl n k dd (shX b) (dX f lv a d) (dX f' lv (a + k) (d + dd))
  unfold dX
  split
  ·exact h.oper a d h0
  ·exact (h.expr (lv + 1) a d h0 (by omega)).bind (fun v a1 w a' e1 e2 => pf.bin _ _ _ _ _ _ e2) fun v a1 e9 ha => h.bin lv v a1 d (by have := pf.expr _ _ _ _ _ e9; omega) hlv ha
 ·show Rl n k dd (shX b) (eI l f a d) (eI l' f' (a + k) (d + dd))
  refine Rl.lt (pn.oper a d) fun ha => ?_
  unfold eI
  rw [s.is h0 ha, s.tok a h0 ha]
  split
  ·refine (Rl.within (h.oper (a + 1) (d + 1) (by omega))).bind (fun v a1 w a' e1 e2 => by cases e2; exact Nat.le_refl _) fun x a1 _ _ => .ok fun _ => ?_
   rw [kI b rfl, aMx]
   rfl
  ·exact (h.prim a d h0).bind (fun v a1 w a' e1 e2 => pf.post _ _ _ _ _ e2) fun v a1 e9 ha1 => h.post v a1 d (by have := pf.prim _ _ _ _ e9; omega) ha1
 ·exact Rl.lt (pn.prim a d) fun ha => aOn s pf h a d h0 ha
 ·show Rl n k dd (shX b) (jI l f lv x a d) (jI l' f' lv (shX b x) (a + k) (d + dd))
  rcases Nat.eq_or_lt_of_le ha with rfl | ha
  ·intro v a' e ha'
   unfold jI at e ⊢
   rw [s.bAi hlv]
   simp only
   split at e
   ·obtain ⟨z, a2, e1, e2⟩ := aX e
    have := pf.expr _ _ _ _ _ e1
    have := pf.bin _ _ _ _ _ _ e2
    omega
   ·cases e; exact .inl rfl
  ·unfold jI
   rw [s.bin h0 ha]
   split
   ·rw [show a + k + 1 = a + 1 + k by omega]
    refine (h.expr (lv + 1) (a + 1) d (by omega) (by omega)).bind (fun v a1 w a' e1 e2 => pf.bin _ _ _ _ _ _ e2) fun y a2 e9 ha2 => ?_
    have := h.bin lv (aKd (aC l a) x y) a2 d (by have := pf.expr _ _ _ _ _ e9; omega) hlv ha2
    have e : aKd (aC l' (a + k)) (shX b x) (shX b y) = shX b (aKd (aC l a) x y) := by
     unfold aKd
     rw [kI b rfl, s.tok a h0 ha, aOb, aMx]
     rfl
    rw [e]
    exact this
   ·exact .ok fun _ => rfl
 ·show Rl n k dd (mK b) (eT l f acc a d) (eT l' f' (mK b acc) (a + k) (d + dd))
  unfold eT
  refine (h.expr 1 a d h0 (Nat.le_refl _)).bind (fun v a1 w a' e1 e2 => ?_) fun x a1 e9 ha1 => ?_
  ·split at e2
   ·have := pf.elts _ _ _ _ _ e2; omega
   ·cases e2; exact Nat.le_refl _
  ·have e0 : mK b acc ++ [shX b x] = mK b (acc ++ [x]) := by rw [aCn]; rfl
   rcases Nat.eq_or_lt_of_le ha1 with rfl | ha1
   ·intro v a' e ha'
    rw [s.isS (.inr (.inr (.inr rfl)))]
    simp only
    split at e
    ·have := pf.elts _ _ _ _ _ e; omega
    ·cases e
     rw [e0]
     exact .inl rfl
   ·have hp9 := pf.expr _ _ _ _ _ e9
    rw [s.is (by omega) ha1, e0]
    split
    ·rw [show a1 + k + 1 = a1 + 1 + k by omega]
     exact h.elts _ _ _ (by omega)
    ·exact .ok fun _ => rfl
theorem aGq (s : Same lo n k b l l') : ∀ N, SimF lo n k dd b (fns l N) (fns l' N)
 | 0 => ⟨fun _ _ _ _ _ => .out, fun _ _ _ => .out, fun _ _ _ => .out, fun _ _ _ _ => .out, fun _ _ _ _ _ _ _ => .out, fun _ _ _ _ _ => .out, fun _ _ _ _ => .out⟩
 | N + 1 => aNl s (nC l N) (aGq s N)
end
end Go.VM
end
