/- laid for this seat: RcXl VyA VyB VyC VyD VyE VyF VyG VyK VyL -/
import Derived.Test.YtipiffhjilidlaaDoorVmR
import Derived.Test.YtipiffhjilidlaaDoorProg
import Derived.ProofKit
import Derived.Test.YtipiffhjilidlaaDoorVg6
import Derived.Test.YtipiffhjilidlaaDoorVg2
section
set_option maxRecDepth 100000
namespace Go.VM
open Go.RowKit
end Go.VM
end
section
/- Expressions of a text: the tokens of a text lie one behind the other. -/
set_option maxRecDepth 100000
set_option linter.unusedVariables false
set_option linter.unusedSimpArgs false
namespace Go.VM
open Go.RowKit
def toZ (t : Tk) : Tz := ⟨t.kind, t.a, t.e, t.text⟩
theorem encTks_Z (l : List Tk) : l.map encTk = (l.map toZ).map encTz := by rw [List.map_map]; rfl
theorem tokF_a {s : List Nat} {i c : Nat} (h : (tokF s i c).2 = 0) : (tokF s i c).1.a = i ∧ (tokF s i c).1.kind ≤ 5 := by
 cases hL : letterB c with
 | true =>
  rw [tokF_letter hL]
  refine ⟨rfl, ?_⟩
  dsimp only
  split <;> decide
 | false =>
 cases hD : digitB c with
 | true => rw [tokF_digit hL hD]; exact ⟨rfl, by show 2 ≤ 5; decide⟩
 | false =>
 by_cases h34 : c = 34
 ·rw [tokF_quot hL hD h34] at h ⊢
  unfold quotF at h ⊢
  split at h
  ·cases h
  ·exact ⟨rfl, by show 3 ≤ 5; decide⟩
 cases hp : (pfxB (s.drop i) [61, 61] || pfxB (s.drop i) [38, 38]) with
 | true => rw [tokF_two hL hD h34 hp]; exact ⟨rfl, by show 4 ≤ 5; decide⟩
 | false => rw [tokF_one hL hD h34 hp]; exact ⟨rfl, by show 4 ≤ 5; decide⟩
def Tl (N : Nat) : Nat → List Tk → Prop
 | _, [] => False
 | i, [t] => t = ⟨0, N, N, []⟩ ∧ i ≤ N
 | i, t :: u :: r => i ≤ t.a ∧ t.a < t.e ∧ t.e ≤ N ∧ t.text.length ≤ N ∧ Tl N t.e (u :: r)
theorem Tl.cons {N i : Nat} {t : Tk} {r : List Tk} (h1 : i ≤ t.a) (h2 : t.a < t.e) (h3 : t.e ≤ N) (h4 : t.text.length ≤ N) (h : Tl N t.e r) : Tl N i (t :: r) := by
 cases r with
 | nil => exact h.elim
 | cons u r => exact ⟨h1, h2, h3, h4, h⟩
theorem Tl.le {N i j : Nat} {r : List Tk} (h : Tl N i r) (hj : j ≤ i) : Tl N j r := by
 match r, h with
 | [t], h => exact ⟨h.1, Nat.le_trans hj h.2⟩
 | t :: u :: r, h => exact ⟨Nat.le_trans hj h.1, h.2⟩
theorem lexL_tl (s : List Nat) : ∀ (m i : Nat) (l T : List Tk) (x : Nat), i ≤ s.length → s.length + 1 ≤ m + i → lexL s m i l = (T, x, 0) → ∃ r, T = l ++ r ∧ Tl s.length i r := by
 intro m
 induction m with
 | zero => intro i l T x h1 h2; omega
 | succ m ih =>
  intro i l T x h1 h2 h
  simp only [lexL] at h
  cases hc : s[i]? with
  | none =>
   rw [hc] at h
   cases h
   have : s.length ≤ i := List.getElem?_eq_none_iff.1 hc
   exact ⟨[endTk s], rfl, rfl, h1⟩
  | some c =>
   rw [hc] at h
   simp only [tokW] at h
   split at h
   ·rename_i t ht
    have h0 : (tokF s i c).1 = t := by rw [Prod.mk.injEq] at ht; exact ht.1
    have hz : (tokF s i c).2 = 0 := by
     rw [Prod.mk.injEq] at ht
     have h2 := ht.2
     split at h2
     ·cases h2
     ·exact h2
    have hp := tokF_pos hc hz
    have ha := tokF_a hz
    rw [h0] at hp ha
    obtain ⟨r, hr, htl⟩ := ih _ _ _ _ (skipF_le s _ _ hp.2.1) (by have := skipF_ge s (s.length + 1) t.e; omega) h
    refine ⟨{ t with text := (s.drop i).take (t.e - i) } :: r, by rw [hr]; simp, ?_⟩
    refine Tl.cons (by show i ≤ t.a; omega) (by show t.a < t.e; omega) hp.2.1 ?_ (htl.le (skipF_ge s _ _))
    show ((s.drop i).take (t.e - i)).length ≤ _
    rw [List.length_take, List.length_drop]
    omega
   ·rename_i h3; cases h
theorem lexR_tl {s : List Nat} {T : List Tk} {x : Nat} (h : lexR s = (T, x, 0)) : Tl s.length 0 T := by
 obtain ⟨r, hr, ht⟩ := lexL_tl s _ _ _ _ _ (skipF_le s _ _ (Nat.zero_le _)) (by omega) h
 rw [hr]
 exact ht.le (Nat.zero_le _)
structure GoodT (N : Nat) (l : List Tz) : Prop where
 pos : 1 ≤ l.length
 last : ∀ t, l[l.length - 1]? = some t → t = ⟨0, N, N, []⟩
 tok : ∀ i t, l[i]? = some t → i + 1 < l.length → 0 ≤ t.a ∧ t.a < t.e ∧ t.e ≤ (N : Int) ∧ t.t.length ≤ N
 next : ∀ i t u, l[i]? = some t → l[i + 1]? = some u → t.e ≤ u.a
theorem Tl.good {N : Nat} : ∀ {i : Nat} {r : List Tk}, Tl N i r → GoodT N (r.map toZ) ∧ ∀ t, (r.map toZ)[0]? = some t → (i : Int) ≤ t.a
 | i, [t], h => by
  obtain ⟨rfl, h2⟩ := h
  refine ⟨⟨Nat.le_refl _, fun t ht => by simpa [toZ] using ht.symm, fun j t ht hj => ?_, fun j t u ht hu => ?_⟩, fun t ht => ?_⟩
  ·simp at hj
  ·simp at hu
  ·simp [toZ] at ht
   subst ht
   show (i : Int) ≤ (N : Int)
   omega
 | i, t :: u :: r, h => by
  obtain ⟨h1, h2, h3, h4, h5⟩ := h
  obtain ⟨g, g0⟩ := Tl.good h5
  refine ⟨⟨by simp, fun x hx => ?_, fun j x hx hj => ?_, fun j x y hx hy => ?_⟩, fun x hx => ?_⟩
  ·refine g.last x ?_
   have e : ((t :: u :: r).map toZ).length - 1 = (((u :: r).map toZ).length - 1) + 1 := by simp
   rw [e, List.map_cons, List.getElem?_cons_succ] at hx
   exact hx
  ·cases j with
   | zero =>
    simp only [List.map_cons, List.getElem?_cons_zero, Option.some.injEq] at hx
    subst hx
    simp only [toZ]
    omega
   | succ j =>
    rw [List.map_cons, List.getElem?_cons_succ] at hx
    exact g.tok j x hx (by simp at hj ⊢; omega)
  ·cases j with
   | zero =>
    simp only [List.map_cons, List.getElem?_cons_zero, Option.some.injEq] at hx
    subst hx
    rw [List.map_cons, List.getElem?_cons_succ] at hy
    exact g0 y hy
   | succ j =>
    rw [List.map_cons, List.getElem?_cons_succ] at hx hy
    exact g.next j x y hx hy
  ·simp only [List.map_cons, List.getElem?_cons_zero, Option.some.injEq] at hx
   subst hx
   simp only [toZ]
   omega
theorem lexR_good {s : List Nat} {T : List Tk} {x : Nat} (h : lexR s = (T, x, 0)) : GoodT s.length (T.map toZ) := (lexR_tl h).good.1
end Go.VM
end
section
/- Expressions of a text: parts lie within, one behind the other. -/
set_option maxRecDepth 100000
set_option linter.unusedVariables false
set_option linter.unusedSimpArgs false
namespace Go.VM
open Go.RowKit
theorem now_of {l : List Tz} {i : Nat} (h : i < l.length) : l[i]? = some (nowF l i) := by
 rw [nowF, List.getElem?_eq_getElem h]
section
variable {N : Nat} {l : List Tz}
theorem GoodT.kind (g : GoodT N l) {i : Nat} (h : (nowF l i).k ≠ 0) : i + 1 < l.length := by
 have h1 := now_lt h
 rcases Nat.lt_or_ge (i + 1) l.length with q | q
 ·exact q
 ·have := g.last (nowF l i) (by rw [show l.length - 1 = i by omega]; exact now_of h1)
  rw [this] at h; exact absurd rfl h
theorem GoodT.lt (g : GoodT N l) {i : Nat} (h : i + 1 < l.length) : (nowF l i).a < (nowF l i).e := (g.tok i _ (now_of (by omega)) h).2.1
theorem GoodT.step (g : GoodT N l) {i : Nat} (h : i + 1 < l.length) : (nowF l i).e ≤ (nowF l (i + 1)).a := g.next i _ _ (now_of (by omega)) (now_of h)
theorem GoodT.sorted (g : GoodT N l) : ∀ {i j : Nat}, i < j → j < l.length → (nowF l i).e ≤ (nowF l j).a := by
 intro i j
 induction j with
 | zero => intro h; omega
 | succ j ih =>
  intro h1 h2
  have h3 := g.step (i := j) h2
  rcases Nat.lt_or_ge i j with q | q
  ·have := ih q (by omega)
   have := g.lt (i := j) h2
   omega
  ·have : i = j := by omega
   subst this; exact h3
theorem GoodT.mono (g : GoodT N l) {i j : Nat} (h : i ≤ j) (hj : j < l.length) : (nowF l i).a ≤ (nowF l j).a := by
 rcases Nat.eq_or_lt_of_le h with e | e
 ·rw [e]; omega
 ·have := g.sorted e hj
  have := g.lt (i := i) (by omega)
  omega
end
mutual
def lies : Ex → Prop
 | .mk _ a e _ _ _ args => chain a args e
def chain : Int → List Ex → Int → Prop
 | lo, [], hi => lo ≤ hi
 | lo, x :: r, hi => lo ≤ x.at' ∧ x.at' < x.en ∧ lies x ∧ chain x.en r hi
end
theorem chain.up : ∀ {r : List Ex} {lo hi hi' : Int}, chain lo r hi → hi ≤ hi' → chain lo r hi'
 | [], lo, hi, hi', h, k => by
  have h : lo ≤ hi := h
  show lo ≤ hi'; omega
 | x :: r, lo, hi, hi', h, k => ⟨h.1, h.2.1, h.2.2.1, chain.up h.2.2.2 k⟩
theorem bind_ok {α β : Type} {r : R α} {f : α → Nat → R β} {v : β} {a : Nat} (h : r.bind f = .ok v a) : ∃ x a1, r = .ok x a1 ∧ f x a1 = .ok v a := by
 cases r with
 | ok x a1 => exact ⟨x, a1, rfl, h⟩
 | er _ _ _ _ => cases h
 | out => cases h
theorem within_okD {α : Type} {l : List Tz} {a d : Nat} {f : Nat → Nat → R α} {v : α} {a' : Nat} (h : withinF l a d f = .ok v a') : f (a + 1) (d + 1) = .ok v a' := by
 unfold withinF at h
 split at h
 ·cases h
 ·exact h
theorem must_okD {l : List Tz} {a d : Nat} {s : List Nat} {e : Int} {a1 : Nat} (h : mustF l a d s = .ok e a1) : e = (nowF l a).e ∧ a1 = a + 1 ∧ (nowF l a).k = 4 := by
 unfold mustF at h
 split at h
 ·rename_i hi
  cases h
  unfold isF at hi
  simp only [Bool.and_eq_true, decide_eq_true_eq] at hi
  exact ⟨rfl, rfl, hi.1⟩
 ·cases h
section
variable {N : Nat} {l : List Tz}
end
end Go.VM
end
section
/- Expressions of a text: where it is wrong. -/
set_option maxRecDepth 100000
set_option linter.unusedVariables false
set_option linter.unusedSimpArgs false
namespace Go.VM
open Go.RowKit
def ErrP {α : Type} (N : Nat) (r : R α) : Prop := ∀ a d p c, r = .er a d p c → 0 ≤ p ∧ p ≤ (N : Int) ∧ c ≠ 0
theorem ErrP.ok {α : Type} {N : Nat} {v : α} {a : Nat} : ErrP N (R.ok v a) := fun _ _ _ _ e => by cases e
section
variable {N : Nat} {l : List Tz}
end
end Go.VM
end
section
/- Expressions of a text: the law's own search. -/
set_option maxRecDepth 100000
set_option linter.unusedVariables false
set_option linter.unusedSimpArgs false
namespace Go.VM
open Go.RowKit
end Go.VM
end
section
/- Expressions of a text: the law ExprxLies. -/
set_option maxRecDepth 100000
set_option linter.unusedVariables false
set_option linter.unusedSimpArgs false
namespace Go.VM
open Go.RowKit
theorem all_at (s : List Nat) (h8 : ∀ c ∈ s, c < 256) (hl : s.length < big) : SCall Go.Proofs.Tryd.prog [0] 12 [.str s] none ⟨1000, og tOl, []⟩ (.ret (allV s)) none ⟨1000, og tOl, []⟩ := by
 refine SCall.trim (all_core2 s h8 hl) rfl (Nat.le_refl _) (fun b hb => ?_) (fun b _ => rfl) (fun b _ => .inl rfl) ((allV_in (D := (· < 1000)) s).refLt)
 exact olB_none (N := 1000) rfl b hb
end Go.VM
end
section
/- Expressions of a text: the law ExprxLies, walked. -/
set_option maxRecDepth 100000
set_option linter.unusedVariables false
set_option linter.unusedSimpArgs false
namespace Go.VM
open Go.RowKit
theorem toZ_text {N : Nat} {l : List Tz} (g : GoodT N l) (hN : N < big) : ∀ t ∈ l, t.t.length < big := by
 intro t ht
 obtain ⟨i, hi⟩ := List.mem_iff_getElem?.1 ht
 have hlt := (List.getElem?_eq_some_iff.1 hi).1
 rcases Nat.lt_or_ge (i + 1) l.length with h | h
 ·have := (g.tok i t hi h).2.2.2; omega
 ·have := g.last t (by rw [show l.length - 1 = i by omega]; exact hi)
  rw [this]; show 0 < big; decide
end Go.VM
end
section
/- Expressions of a text: the calls at the head of the laws. -/
set_option maxRecDepth 100000
set_option linter.unusedVariables false
set_option linter.unusedSimpArgs false
namespace Go.VM
open Go.RowKit
def s1 : List Nat := [97, 43, 98, 42, 99, 59]
def s2 : List Nat := [102, 40, 44, 41]
def Z1 : List Tz := [⟨1, 0, 1, [97]⟩, ⟨4, 1, 2, [43]⟩, ⟨1, 2, 3, [98]⟩, ⟨4, 3, 4, [42]⟩, ⟨1, 4, 5, [99]⟩, ⟨4, 5, 6, [59]⟩, ⟨0, 6, 6, []⟩]
def Z2 : List Tz := [⟨1, 0, 1, [102]⟩, ⟨4, 1, 2, [40]⟩, ⟨4, 2, 3, [44]⟩, ⟨4, 3, 4, [41]⟩, ⟨0, 4, 4, []⟩]
end Go.VM
end
section
/- Expressions: the same tokens elsewhere, or one bracket deeper, give the same expression, moved. -/
set_option maxRecDepth 100000
set_option linter.unusedVariables false
set_option linter.unusedSimpArgs false
namespace Go.VM
open Go.RowKit
structure ProgF (f : Fns) : Prop where
 expr : ∀ lv a d x a', f.expr lv a d = .ok x a' → a < a'
 oper : ∀ a d x a', f.oper a d = .ok x a' → a < a'
 prim : ∀ a d x a', f.prim a d = .ok x a' → a < a'
 list : ∀ to a d r a', f.list to a d = .ok r a' → a < a'
 bin : ∀ lv x a d y a', f.bin lv x a d = .ok y a' → a ≤ a'
 post : ∀ x a d y a', f.post x a d = .ok y a' → a ≤ a'
 elts : ∀ acc a d es a', f.elts acc a d = .ok es a' → a < a'
theorem made_okD {l : List Tz} {f : Fns} {p : Int} {a d : Nat} {x : Ex} {a' : Nat} (e : madeF l f p a d = .ok x a') :
  ∃ ty a1 r, tyF l (a + 1) = .ok ty a1 ∧ isF l a1 4 [123] = true ∧ f.list [125] a1 d = .ok r a' ∧ x = .mk 8 p r.2 [] 0 ty r.1 := by
 unfold madeF at e
 split at e
 ·rename_i ty a1 ht
  split at e
  ·rename_i hi
   obtain ⟨r, a2, e1, e2⟩ := bind_ok e
   cases e2
   exact ⟨ty, a1, r, ht, hi, e1, rfl⟩
  ·cases e
 ·cases e
 ·cases e
theorem nElt0_prog {l : List Tz} {f : Fns} (h : ProgF f) {to : List Nat} {a d : Nat} {es : List Ex} {a' : Nat} (e : nElt0 l f to a d = .ok es a') : a ≤ a' := by
 unfold nElt0 at e
 split at e
 ·cases e; exact Nat.le_refl _
 ·exact Nat.le_of_lt (h.elts _ _ _ _ _ e)
theorem prog_next {l : List Tz} {f : Fns} (h : ProgF f) : ProgF ⟨nExpr f, nOper l f, nPrim l f, nList l f, nBin l f, nPost l f, nElts l f⟩ := by
 refine ⟨fun lv a d x a' e => ?_, fun a d x a' e => ?_, fun a d x a' e => ?_, fun to a d r a' e => ?_, fun lv x a d y a' e => ?_, fun x a d y a' e => ?_, fun acc a d es a' e => ?_⟩
 ·have e : nExpr f lv a d = .ok x a' := e
  unfold nExpr at e
  split at e
  ·exact h.oper _ _ _ _ e
  ·obtain ⟨y, a1, e1, e2⟩ := bind_ok e
   have := h.expr _ _ _ _ _ e1
   have := h.bin _ _ _ _ _ _ e2
   omega
 ·have e : nOper l f a d = .ok x a' := e
  unfold nOper at e
  split at e
  ·obtain ⟨y, a1, e1, e2⟩ := bind_ok e
   cases e2
   have := h.oper _ _ _ _ (within_okD e1)
   omega
  ·obtain ⟨y, a1, e1, e2⟩ := bind_ok e
   have := h.prim _ _ _ _ e1
   have := h.post _ _ _ _ _ e2
   omega
 ·have e : nPrim l f a d = .ok x a' := e
  unfold nPrim at e
  split at e
  ·obtain ⟨n, a1, e1, e2⟩ := bind_ok e
   cases e2
   exact Nat.lt_succ_self _
  ·split at e
   ·split at e
    ·cases e; exact Nat.lt_succ_self _
    ·cases e
   ·split at e
    ·cases e; exact Nat.lt_succ_self _
    ·split at e
     ·cases e; exact Nat.lt_succ_self _
     ·split at e
      ·cases e; exact Nat.lt_succ_self _
      ·split at e
       ·obtain ⟨y, a1, e1, e2⟩ := bind_ok e
        obtain ⟨z, a2, e3, e4⟩ := bind_ok e2
        cases e4
        have := h.expr _ _ _ _ _ (within_okD e1)
        have := (must_okD e3).2.1
        omega
       ·split at e
        ·obtain ⟨ty, a1, r, ht, hi, e1, _⟩ := made_okD e
         have := tyF_fwd ht
         have := h.list _ _ _ _ _ e1
         omega
        ·cases e
 ·have e : nList l f to a d = .ok r a' := e
  unfold nList at e
  obtain ⟨es, a1, e1, e2⟩ := bind_ok e
  obtain ⟨z, a3, e3, e4⟩ := bind_ok e2
  cases e4
  have := nElt0_prog h (within_okD e1)
  have := (must_okD e3).2.1
  omega
 ·have e : nBin l f lv x a d = .ok y a' := e
  unfold nBin at e
  split at e
  ·obtain ⟨z, a2, e1, e2⟩ := bind_ok e
   have := h.expr _ _ _ _ _ e1
   have := h.bin _ _ _ _ _ _ e2
   omega
  ·cases e; exact Nat.le_refl _
 ·have e : nPost l f x a d = .ok y a' := e
  unfold nPost at e
  split at e
  ·split at e
   ·have := h.post _ _ _ _ _ e; omega
   ·cases e
  ·split at e
   ·obtain ⟨r, a1, e1, e2⟩ := bind_ok e
    have := h.list _ _ _ _ _ e1
    have := h.post _ _ _ _ _ e2
    omega
   ·split at e
    ·obtain ⟨z, a1, e1, e2⟩ := bind_ok e
     obtain ⟨w, a2, e3, e4⟩ := bind_ok e2
     have := h.expr _ _ _ _ _ (within_okD e1)
     have := (must_okD e3).2.1
     have := h.post _ _ _ _ _ e4
     omega
    ·cases e; exact Nat.le_refl _
 ·have e : nElts l f acc a d = .ok es a' := e
  unfold nElts at e
  obtain ⟨x, a1, e1, e2⟩ := bind_ok e
  have := h.expr _ _ _ _ _ e1
  split at e2
  ·have := h.elts _ _ _ _ _ e2; omega
  ·cases e2; omega
theorem fns_prog (l : List Tz) : ∀ n, ProgF (fns l n)
 | 0 => ⟨fun _ _ _ _ _ e => (by cases e), fun _ _ _ _ e => (by cases e), fun _ _ _ _ e => (by cases e), fun _ _ _ _ _ e => (by cases e), fun _ _ _ _ _ _ e => (by cases e), fun _ _ _ _ _ e => (by cases e), fun _ _ _ _ _ e => (by cases e)⟩
 | n + 1 => prog_next (fns_prog l n)
def Rl {α : Type} (n k dd : Nat) (sh : α → α) (r r' : R α) : Prop := ∀ v a', r = .ok v a' → a' ≤ n → r' = .ok (sh v) (a' + k) ∨ (0 < dd ∧ ∃ a1 d1 p, r' = .er a1 d1 p 6)
section
variable {n k dd : Nat}
theorem Rl.ok {α : Type} {sh : α → α} {v : α} {a : Nat} {r' : R α} (h : a ≤ n → r' = .ok (sh v) (a + k)) : Rl n k dd sh (.ok v a) r' := by
 intro w a' e ha
 cases e
 exact .inl (h ha)
theorem Rl.er {α : Type} {sh : α → α} {a d : Nat} {p c : Int} {r' : R α} : Rl n k dd sh (.er a d p c) r' := fun _ _ e => by cases e
variable {b : Int} {l l' : List Tz}
theorem Rl.lt {α : Type} {sh : α → α} {r r' : R α} {a : Nat} (hp : ∀ v a', r = .ok v a' → a < a') (h : a < n → Rl n k dd sh r r') : Rl n k dd sh r r' := by
 intro v a' e ha
 have := hp v a' e
 exact h (by omega) v a' e ha
theorem Rl.le {α : Type} {sh : α → α} {r r' : R α} {a : Nat} (hp : ∀ v a', r = .ok v a' → a ≤ a') (h : a ≤ n → Rl n k dd sh r r') : Rl n k dd sh r r' := by
 intro v a' e ha
 have := hp v a' e
 exact h (by omega) v a' e ha
end
end Go.VM
end
section
/- Expressions: the same tokens elsewhere, or one bracket deeper, give the same expression, moved: proved. -/
set_option maxRecDepth 100000
set_option linter.unusedVariables false
set_option linter.unusedSimpArgs false
namespace Go.VM
open Go.RowKit
section
variable {n k dd : Nat} {b : Int} {l l' : List Tz}
end
end Go.VM
end
