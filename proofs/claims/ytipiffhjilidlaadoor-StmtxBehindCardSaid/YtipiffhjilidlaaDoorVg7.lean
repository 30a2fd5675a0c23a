/- laid for this seat: RcXl VyA VyB VyC VyD VyE VyF VyG VyK VyL -/
import Derived.Test.YtipiffhjilidlaaDoorVmR
import Derived.Test.YtipiffhjilidlaaDoorProg
import Derived.ProofKit
import Derived.Test.YtipiffhjilidlaaDoorVg6
import Derived.Test.YtipiffhjilidlaaDoorVg2
section
set_option maxRecDepth 100000
namespace Go.VM
open Go.RowKit
end Go.VM
end
section
/- Expressions of a text: the tokens of a text lie one behind the other. -/
set_option maxRecDepth 100000
set_option linter.unusedVariables false
set_option linter.unusedSimpArgs false
namespace Go.VM
open Go.RowKit
def toZ (t : Tk) : Tz := ⟨t.kind, t.a, t.e, t.text⟩
theorem encTks_Z (l : List Tk) : l.map encTk = (l.map toZ).map encTz := by rw [List.map_map]; rfl
def Tl (N : Nat) : Nat → List Tk → Prop
 | _, [] => False
 | i, [t] => t = ⟨0, N, N, []⟩ ∧ i ≤ N
 | i, t :: u :: r => i ≤ t.a ∧ t.a < t.e ∧ t.e ≤ N ∧ t.text.length ≤ N ∧ Tl N t.e (u :: r)
theorem Tl.cons {N i : Nat} {t : Tk} {r : List Tk} (h1 : i ≤ t.a) (h2 : t.a < t.e) (h3 : t.e ≤ N) (h4 : t.text.length ≤ N) (h : Tl N t.e r) : Tl N i (t :: r) := by
 cases r with
 | nil => exact h.elim
 | cons u r => exact ⟨h1, h2, h3, h4, h⟩
theorem Tl.le {N i j : Nat} {r : List Tk} (h : Tl N i r) (hj : j ≤ i) : Tl N j r := by
 match r, h with
 | [t], h => exact ⟨h.1, Nat.le_trans hj h.2⟩
 | t :: u :: r, h => exact ⟨Nat.le_trans hj h.1, h.2⟩
structure GoodT (N : Nat) (l : List Tz) : Prop where
 pos : 1 ≤ l.length
 last : ∀ t, l[l.length - 1]? = some t → t = ⟨0, N, N, []⟩
 tok : ∀ i t, l[i]? = some t → i + 1 < l.length → 0 ≤ t.a ∧ t.a < t.e ∧ t.e ≤ (N : Int) ∧ t.t.length ≤ N
 next : ∀ i t u, l[i]? = some t → l[i + 1]? = some u → t.e ≤ u.a
end Go.VM
end
section
/- Expressions of a text: parts lie within, one behind the other. -/
set_option maxRecDepth 100000
set_option linter.unusedVariables false
set_option linter.unusedSimpArgs false
namespace Go.VM
open Go.RowKit
theorem now_of {l : List Tz} {i : Nat} (h : i < l.length) : l[i]? = some (nowF l i) := by
 rw [nowF, List.getElem?_eq_getElem h]
section
variable {N : Nat} {l : List Tz}
theorem GoodT.kind (g : GoodT N l) {i : Nat} (h : (nowF l i).k ≠ 0) : i + 1 < l.length := by
 have h1 := now_lt h
 rcases Nat.lt_or_ge (i + 1) l.length with q | q
 ·exact q
 ·have := g.last (nowF l i) (by rw [show l.length - 1 = i by omega]; exact now_of h1)
  rw [this] at h; exact absurd rfl h
theorem GoodT.lt (g : GoodT N l) {i : Nat} (h : i + 1 < l.length) : (nowF l i).a < (nowF l i).e := (g.tok i _ (now_of (by omega)) h).2.1
theorem GoodT.step (g : GoodT N l) {i : Nat} (h : i + 1 < l.length) : (nowF l i).e ≤ (nowF l (i + 1)).a := g.next i _ _ (now_of (by omega)) (now_of h)
theorem GoodT.sorted (g : GoodT N l) : ∀ {i j : Nat}, i < j → j < l.length → (nowF l i).e ≤ (nowF l j).a := by
 intro i j
 induction j with
 | zero => intro h; omega
 | succ j ih =>
  intro h1 h2
  have h3 := g.step (i := j) h2
  rcases Nat.lt_or_ge i j with q | q
  ·have := ih q (by omega)
   have := g.lt (i := j) h2
   omega
  ·have : i = j := by omega
   subst this; exact h3
theorem GoodT.mono (g : GoodT N l) {i j : Nat} (h : i ≤ j) (hj : j < l.length) : (nowF l i).a ≤ (nowF l j).a := by
 rcases Nat.eq_or_lt_of_le h with e | e
 ·rw [e]; omega
 ·have := g.sorted e hj
  have := g.lt (i := i) (by omega)
  omega
end
mutual
def lies : Ex → Prop
 | .mk _ a e _ _ _ args => chain a args e
def chain : Int → List Ex → Int → Prop
 | lo, [], hi => lo ≤ hi
 | lo, x :: r, hi => lo ≤ x.at' ∧ x.at' < x.en ∧ lies x ∧ chain x.en r hi
end
theorem chain.up : ∀ {r : List Ex} {lo hi hi' : Int}, chain lo r hi → hi ≤ hi' → chain lo r hi'
 | [], lo, hi, hi', h, k => by
  have h : lo ≤ hi := h
  show lo ≤ hi'; omega
 | x :: r, lo, hi, hi', h, k => ⟨h.1, h.2.1, h.2.2.1, chain.up h.2.2.2 k⟩
theorem bind_ok {α β : Type} {r : R α} {f : α → Nat → R β} {v : β} {a : Nat} (h : r.bind f = .ok v a) : ∃ x a1, r = .ok x a1 ∧ f x a1 = .ok v a := by
 cases r with
 | ok x a1 => exact ⟨x, a1, rfl, h⟩
 | er _ _ _ _ => cases h
 | out => cases h
theorem within_okD {α : Type} {l : List Tz} {a d : Nat} {f : Nat → Nat → R α} {v : α} {a' : Nat} (h : withinF l a d f = .ok v a') : f (a + 1) (d + 1) = .ok v a' := by
 unfold withinF at h
 split at h
 ·cases h
 ·exact h
theorem must_okD {l : List Tz} {a d : Nat} {s : List Nat} {e : Int} {a1 : Nat} (h : mustF l a d s = .ok e a1) : e = (nowF l a).e ∧ a1 = a + 1 ∧ (nowF l a).k = 4 := by
 unfold mustF at h
 split at h
 ·rename_i hi
  cases h
  unfold isF at hi
  simp only [Bool.and_eq_true, decide_eq_true_eq] at hi
  exact ⟨rfl, rfl, hi.1⟩
 ·cases h
section
variable {N : Nat} {l : List Tz}
end
end Go.VM
end
section
/- Expressions of a text: where it is wrong. -/
set_option maxRecDepth 100000
set_option linter.unusedVariables false
set_option linter.unusedSimpArgs false
namespace Go.VM
open Go.RowKit
def ErrP {α : Type} (N : Nat) (r : R α) : Prop := ∀ a d p c, r = .er a d p c → 0 ≤ p ∧ p ≤ (N : Int) ∧ c ≠ 0
theorem ErrP.ok {α : Type} {N : Nat} {v : α} {a : Nat} : ErrP N (R.ok v a) := fun _ _ _ _ e => by cases e
section
variable {N : Nat} {l : List Tz}
end
end Go.VM
end
section
/- Expressions of a text: the law's own search. -/
set_option maxRecDepth 100000
set_option linter.unusedVariables false
set_option linter.unusedSimpArgs false
namespace Go.VM
open Go.RowKit
end Go.VM
end
section
/- Expressions of a text: the law ExprxLies. -/
set_option maxRecDepth 100000
set_option linter.unusedVariables false
set_option linter.unusedSimpArgs false
namespace Go.VM
open Go.RowKit
theorem all_at (s : List Nat) (h8 : ∀ c ∈ s, c < 256) (hl : s.length < big) : SCall Go.Proofs.Tryd.prog [0] 12 [.str s] none ⟨1000, og tOl, []⟩ (.ret (allV s)) none ⟨1000, og tOl, []⟩ := by
 refine SCall.trim (all_core2 s h8 hl) rfl (Nat.le_refl _) (fun b hb => ?_) (fun b _ => rfl) (fun b _ => .inl rfl) ((allV_in (D := (· < 1000)) s).refLt)
 exact olB_none (N := 1000) rfl b hb
end Go.VM
end
section
/- Expressions of a text: the law ExprxLies, walked. -/
set_option maxRecDepth 100000
set_option linter.unusedVariables false
set_option linter.unusedSimpArgs false
namespace Go.VM
open Go.RowKit
end Go.VM
end
section
/- Expressions of a text: the calls at the head of the laws. -/
set_option maxRecDepth 100000
set_option linter.unusedVariables false
set_option linter.unusedSimpArgs false
namespace Go.VM
open Go.RowKit
def s1 : List Nat := [97, 43, 98, 42, 99, 59]
def s2 : List Nat := [102, 40, 44, 41]
def Z1 : List Tz := [⟨1, 0, 1, [97]⟩, ⟨4, 1, 2, [43]⟩, ⟨1, 2, 3, [98]⟩, ⟨4, 3, 4, [42]⟩, ⟨1, 4, 5, [99]⟩, ⟨4, 5, 6, [59]⟩, ⟨0, 6, 6, []⟩]
def Z2 : List Tz := [⟨1, 0, 1, [102]⟩, ⟨4, 1, 2, [40]⟩, ⟨4, 2, 3, [44]⟩, ⟨4, 3, 4, [41]⟩, ⟨0, 4, 4, []⟩]
end Go.VM
end
section
/- Expressions: the same tokens elsewhere, or one bracket deeper, give the same expression, moved. -/
set_option maxRecDepth 100000
set_option linter.unusedVariables false
set_option linter.unusedSimpArgs false
namespace Go.VM
open Go.RowKit
structure ProgF (f : Fns) : Prop where
 expr : ∀ lv a d x a', f.expr lv a d = .ok x a' → a < a'
 oper : ∀ a d x a', f.oper a d = .ok x a' → a < a'
 prim : ∀ a d x a', f.prim a d = .ok x a' → a < a'
 list : ∀ to a d r a', f.list to a d = .ok r a' → a < a'
 bin : ∀ lv x a d y a', f.bin lv x a d = .ok y a' → a ≤ a'
 post : ∀ x a d y a', f.post x a d = .ok y a' → a ≤ a'
 elts : ∀ acc a d es a', f.elts acc a d = .ok es a' → a < a'
theorem made_okD {l : List Tz} {f : Fns} {p : Int} {a d : Nat} {x : Ex} {a' : Nat} (e : madeF l f p a d = .ok x a') :
  ∃ ty a1 r, tyF l (a + 1) = .ok ty a1 ∧ isF l a1 4 [123] = true ∧ f.list [125] a1 d = .ok r a' ∧ x = .mk 8 p r.2 [] 0 ty r.1 := by
 unfold madeF at e
 split at e
 ·rename_i ty a1 ht
  split at e
  ·rename_i hi
   obtain ⟨r, a2, e1, e2⟩ := bind_ok e
   cases e2
   exact ⟨ty, a1, r, ht, hi, e1, rfl⟩
  ·cases e
 ·cases e
 ·cases e
theorem nElt0_prog {l : List Tz} {f : Fns} (h : ProgF f) {to : List Nat} {a d : Nat} {es : List Ex} {a' : Nat} (e : nElt0 l f to a d = .ok es a') : a ≤ a' := by
 unfold nElt0 at e
 split at e
 ·cases e; exact Nat.le_refl _
 ·exact Nat.le_of_lt (h.elts _ _ _ _ _ e)
theorem prog_next {l : List Tz} {f : Fns} (h : ProgF f) : ProgF ⟨nExpr f, nOper l f, nPrim l f, nList l f, nBin l f, nPost l f, nElts l f⟩ := by
 refine ⟨fun lv a d x a' e => ?_, fun a d x a' e => ?_, fun a d x a' e => ?_, fun to a d r a' e => ?_, fun lv x a d y a' e => ?_, fun x a d y a' e => ?_, fun acc a d es a' e => ?_⟩
 ·have e : nExpr f lv a d = .ok x a' := e
  unfold nExpr at e
  split at e
  ·exact h.oper _ _ _ _ e
  ·obtain ⟨y, a1, e1, e2⟩ := bind_ok e
   have := h.expr _ _ _ _ _ e1
   have := h.bin _ _ _ _ _ _ e2
   omega
 ·have e : nOper l f a d = .ok x a' := e
  unfold nOper at e
  split at e
  ·obtain ⟨y, a1, e1, e2⟩ := bind_ok e
   cases e2
   have := h.oper _ _ _ _ (within_okD e1)
   omega
  ·obtain ⟨y, a1, e1, e2⟩ := bind_ok e
   have := h.prim _ _ _ _ e1
   have := h.post _ _ _ _ _ e2
   omega
 ·have e : nPrim l f a d = .ok x a' := e
  unfold nPrim at e
  split at e
  ·obtain ⟨n, a1, e1, e2⟩ := bind_ok e
   cases e2
   exact Nat.lt_succ_self _
  ·split at e
   ·split at e
    ·cases e; exact Nat.lt_succ_self _
    ·cases e
   ·split at e
    ·cases e; exact Nat.lt_succ_self _
    ·split at e
     ·cases e; exact Nat.lt_succ_self _
     ·split at e
      ·cases e; exact Nat.lt_succ_self _
      ·split at e
       ·obtain ⟨y, a1, e1, e2⟩ := bind_ok e
        obtain ⟨z, a2, e3, e4⟩ := bind_ok e2
        cases e4
        have := h.expr _ _ _ _ _ (within_okD e1)
        have := (must_okD e3).2.1
        omega
       ·split at e
        ·obtain ⟨ty, a1, r, ht, hi, e1, _⟩ := made_okD e
         have := tyF_fwd ht
         have := h.list _ _ _ _ _ e1
         omega
        ·cases e
 ·have e : nList l f to a d = .ok r a' := e
  unfold nList at e
  obtain ⟨es, a1, e1, e2⟩ := bind_ok e
  obtain ⟨z, a3, e3, e4⟩ := bind_ok e2
  cases e4
  have := nElt0_prog h (within_okD e1)
  have := (must_okD e3).2.1
  omega
 ·have e : nBin l f lv x a d = .ok y a' := e
  unfold nBin at e
  split at e
  ·obtain ⟨z, a2, e1, e2⟩ := bind_ok e
   have := h.expr _ _ _ _ _ e1
   have := h.bin _ _ _ _ _ _ e2
   omega
  ·cases e; exact Nat.le_refl _
 ·have e : nPost l f x a d = .ok y a' := e
  unfold nPost at e
  split at e
  ·split at e
   ·have := h.post _ _ _ _ _ e; omega
   ·cases e
  ·split at e
   ·obtain ⟨r, a1, e1, e2⟩ := bind_ok e
    have := h.list _ _ _ _ _ e1
    have := h.post _ _ _ _ _ e2
    omega
   ·split at e
    ·obtain ⟨z, a1, e1, e2⟩ := bind_ok e
     obtain ⟨w, a2, e3, e4⟩ := bind_ok e2
     have := h.expr _ _ _ _ _ (within_okD e1)
     have := (must_okD e3).2.1
     have := h.post _ _ _ _ _ e4
     omega
    ·cases e; exact Nat.le_refl _
 ·have e : nElts l f acc a d = .ok es a' := e
  unfold nElts at e
  obtain ⟨x, a1, e1, e2⟩ := bind_ok e
  have := h.expr _ _ _ _ _ e1
  split at e2
  ·have := h.elts _ _ _ _ _ e2; omega
  ·cases e2; omega
theorem fns_prog (l : List Tz) : ∀ n, ProgF (fns l n)
 | 0 => ⟨fun _ _ _ _ _ e => (by cases e), fun _ _ _ _ e => (by cases e), fun _ _ _ _ e => (by cases e), fun _ _ _ _ _ e => (by cases e), fun _ _ _ _ _ _ e => (by cases e), fun _ _ _ _ _ e => (by cases e), fun _ _ _ _ _ e => (by cases e)⟩
 | n + 1 => prog_next (fns_prog l n)
def shZ (by' : Int) (t : Tz) : Tz := ⟨t.k, t.a + by', t.e + by', t.t⟩
mutual
def shT (by' : Int) : Tx → Tx
 | .mk k a p n l => .mk k (a + by') p n (shTs by' l)
def shTs (by' : Int) : List Tx → List Tx
 | [] => []
 | x :: l => shT by' x :: shTs by' l
end
mutual
def shX (by' : Int) : Ex → Ex
 | .mk k a e nm n t args => .mk k (a + by') (e + by') nm n (match Nat.beq k 8 with | true => shT by' t | false => t) (shXs by' args)
def shXs (by' : Int) : List Ex → List Ex
 | [] => []
 | x :: l => shX by' x :: shXs by' l
end
theorem shXs_app (b : Int) : ∀ l m : List Ex, shXs b (l ++ m) = shXs b l ++ shXs b m
 | [], m => rfl
 | x :: l, m => by simp only [shXs, List.cons_append, shXs_app b l m]
theorem shX_at (b : Int) : ∀ x : Ex, (shX b x).at' = x.at' + b
 | .mk .. => rfl
theorem shX_en (b : Int) : ∀ x : Ex, (shX b x).en = x.en + b
 | .mk .. => rfl
def Rl {α : Type} (n k dd : Nat) (sh : α → α) (r r' : R α) : Prop := ∀ v a', r = .ok v a' → a' ≤ n → r' = .ok (sh v) (a' + k) ∨ (0 < dd ∧ ∃ a1 d1 p, r' = .er a1 d1 p 6)
section
variable {n k dd : Nat}
theorem Rl.ok {α : Type} {sh : α → α} {v : α} {a : Nat} {r' : R α} (h : a ≤ n → r' = .ok (sh v) (a + k)) : Rl n k dd sh (.ok v a) r' := by
 intro w a' e ha
 cases e
 exact .inl (h ha)
theorem Rl.er {α : Type} {sh : α → α} {a d : Nat} {p c : Int} {r' : R α} : Rl n k dd sh (.er a d p c) r' := fun _ _ e => by cases e
theorem Rl.out {α : Type} {sh : α → α} {r' : R α} : Rl n k dd sh .out r' := fun _ _ e => by cases e
theorem Rl.bind {α β : Type} {s1 : α → α} {s2 : β → β} {r r' : R α} {f f' : α → Nat → R β} (h : Rl n k dd s1 r r') (p : ∀ v a1 w a', r = .ok v a1 → f v a1 = .ok w a' → a1 ≤ a')
  (q : ∀ v a1, r = .ok v a1 → a1 ≤ n → Rl n k dd s2 (f v a1) (f' (s1 v) (a1 + k))) : Rl n k dd s2 (r.bind f) (r'.bind f') := by
 intro w a' e ha
 obtain ⟨v, a1, e1, e2⟩ := bind_ok e
 have hp := p v a1 w a' e1 e2
 rcases h v a1 e1 (by omega) with h1 | ⟨h0, x, y, z, h1⟩
 ·rw [h1]
  exact q v a1 e1 (by omega) w a' e2 ha
 ·rw [h1]
  exact .inr ⟨h0, x, y, z, rfl⟩
theorem Rl.within {α : Type} {sh : α → α} {l l' : List Tz} {a d : Nat} {f f' : Nat → Nat → R α} (h : Rl n k dd sh (f (a + 1) (d + 1)) (f' (a + 1 + k) (d + 1 + dd))) : Rl n k dd sh (withinF l a d f) (withinF l' (a + k) (d + dd) f') := by
 intro v a' e ha
 have e1 := within_okD e
 by_cases h30 : d + dd = 30
 ·refine .inr ⟨?_, a + k, d + dd, (nowF l' (a + k)).a, ?_⟩
  ·rcases Nat.eq_zero_or_pos dd with h0 | h0
   ·subst h0
    unfold withinF at e
    rw [if_pos (by omega)] at e
    cases e
   ·exact h0
  ·unfold withinF
   rw [if_pos h30]
   rfl
 ·unfold withinF
  rw [if_neg h30, show a + k + 1 = a + 1 + k by omega, show d + dd + 1 = d + 1 + dd by omega]
  exact h v a' e1 ha
def stopB (t : Tz) : Bool := !decide (t.k = 4) || (Nat.beq (lev t.t) 0 && !decide (t.t = [46]) && !decide (t.t = [40]) && !decide (t.t = [91]) && !decide (t.t = [44]))
structure Same (n k : Nat) (b : Int) (l l' : List Tz) : Prop where
 tok : ∀ i, i < n → nowF l' (i + k) = shZ b (nowF l i)
 stop : stopB (nowF l' (n + k)) = true
variable {b : Int} {l l' : List Tz}
theorem Same.is (s : Same n k b l l') {i : Nat} (h : i < n) (kk : Int) (x : List Nat) : isF l' (i + k) kk x = isF l i kk x := by
 unfold isF
 rw [s.tok i h]
 rfl
theorem stop_sym {t : Tz} (h : stopB t = true) {x : List Nat} (hx : x = [46] ∨ x = [40] ∨ x = [91] ∨ x = [44]) : symB t x = false := by
 cases hs : symB t x with
 | false => rfl
 | true =>
  unfold symB at hs
  simp only [Bool.and_eq_true, decide_eq_true_eq] at hs
  unfold stopB at h
  rw [hs.1, hs.2] at h
  rcases hx with rfl | rfl | rfl | rfl <;> cases h
theorem Same.isS (s : Same n k b l l') {x : List Nat} (hx : x = [46] ∨ x = [40] ∨ x = [91] ∨ x = [44]) : isF l' (n + k) 4 x = false := stop_sym s.stop hx
theorem Same.bin (s : Same n k b l l') {i lv : Nat} (h : i < n) : binB lv (nowF l' (i + k)) = binB lv (nowF l i) := by
 rw [s.tok i h]; rfl
theorem Same.binS (s : Same n k b l l') {lv : Nat} (h : 1 ≤ lv) : binB lv (nowF l' (n + k)) = false := by
 cases hb : binB lv (nowF l' (n + k)) with
 | false => rfl
 | true =>
  unfold binB at hb
  simp only [Bool.and_eq_true, decide_eq_true_eq] at hb
  have := s.stop
  unfold stopB at this
  rw [hb.1] at this
  simp only [decide_true, Bool.not_true, Bool.false_or, Bool.and_eq_true] at this
  have := Nat.eq_of_beq_eq_true this.1.1.1.1
  have := hb.2
  omega
theorem Same.must (s : Same n k b l l') {a d : Nat} {x : List Nat} : Rl n k dd (· + b) (mustF l a d x) (mustF l' (a + k) (d + dd) x) := by
 intro v a' e ha
 obtain ⟨h1, h2, h3⟩ := must_okD e
 have hlt : a < n := by omega
 unfold mustF at e ⊢
 rw [s.is hlt]
 split at e
 ·cases e
  refine .inl ?_
  rw [s.tok a hlt]
  show R.ok ((nowF l a).e + b) (a + k + 1) = _
  rw [show a + k + 1 = a + 1 + k by omega]
 ·cases e
theorem Same.open' (s : Same n k b l l') : ∀ (m a : Nat) (ls : List Int) (a' : Nat) (ls' : List Int), tyOpen l m a ls = .brk a' ls' → a' < n → tyOpen l' m (a + k) (ls.map (· + b)) = .brk (a' + k) (ls'.map (· + b))
 | 0, a, ls, a', ls', h, ha => by
  simp only [tyOpen] at h ⊢
  split at h
  ·rename_i hs
   cases h
   have := s.is ha 4 [91]
   rw [isF_sym, isF_sym] at this
   rw [this, hs]
  ·cases h
 | m + 1, a, ls, a', ls', h, ha => by
  have hf := (tyOpen_fwd l (m + 1) a ls a' ls' h).1
  simp only [tyOpen] at h ⊢
  have h1 := s.is (i := a) (by omega) 4 [91]
  rw [isF_sym, isF_sym] at h1
  split at h
  ·rename_i hs
   cases h
   rw [h1, hs]
  ·rename_i hs
   rw [h1, hs]
   simp only
   split at h
   ·cases h
   ·rename_i hs2
    have hf2 := (tyOpen_fwd l m _ _ _ _ h).1
    have h2 := s.is (i := a + 1) (by omega) 4 [93]
    rw [isF_sym, isF_sym] at h2
    rw [show a + k + 1 = a + 1 + k by omega, h2, hs2]
    simp only
    have := Same.open' s m (a + 2) (ls ++ [(nowF l a).a]) a' ls' h ha
    rw [show a + k + 2 = a + 2 + k by omega, ← this, s.tok a (by omega)]
    simp [shZ]
theorem Same.base (s : Same n k b l l') {a : Nat} {x : Tx} {a2 : Nat} (h : tyBase l a = .ok x a2) (ha : a2 + 1 < n) : tyBase l' (a + k) = .ok (shT b x) (a2 + k) := by
 have hf := (tyBase_fwd h).1
 unfold tyBase at h ⊢
 have e0 := s.tok a (by omega)
 have e1 := s.tok (a + 1) (by omega)
 rw [e0, show a + k + 1 = a + 1 + k by omega, e1, show a + k + 2 = a + 2 + k by omega]
 simp only [show ∀ t : Tz, (shZ b t).k = t.k from fun _ => rfl, show ∀ t : Tz, (shZ b t).t = t.t from fun _ => rfl, show ∀ t : Tz, (shZ b t).a = t.a + b from fun _ => rfl, show ∀ (t : Tz) x, symB (shZ b t) x = symB t x from fun _ _ => rfl]
 split at h
 ·rename_i hc
  cases h
  try rw [hc]
  rfl
 ·rename_i hc
  try rw [hc]
  try simp only
  split at h
  ·rename_i hc
   try rw [hc]
   try simp only
   split at h
   ·rename_i hc
    try rw [hc]
    try simp only
    split at h
    ·rename_i hc
     cases h
     rw [s.tok (a + 2) (by omega)]
     simp only [show ∀ t : Tz, (shZ b t).k = t.k from fun _ => rfl, show ∀ t : Tz, (shZ b t).t = t.t from fun _ => rfl]
     try rw [hc]
     simp [shT, shTs]
    ·cases h
   ·rename_i hc
    cases h
    try rw [hc]
    rfl
  ·cases h
theorem shT_wrap (b : Int) : ∀ (ls : List Int) (x : Tx), shT b (tyWrap ls x) = tyWrap (ls.map (· + b)) (shT b x)
 | [], x => rfl
 | p :: ls, x => by simp only [tyWrap, List.map_cons, shT, shTs, shT_wrap b ls x]
theorem Same.ty (s : Same n k b l l') {a : Nat} {x : Tx} {a2 : Nat} (h : tyF l a = .ok x a2) (ha : a2 < n) : tyF l' (a + k) = .ok (shT b x) (a2 + k) := by
 unfold tyF at h ⊢
 split at h
 ·cases h
 ·rename_i a1 ls ho
  split at h
  ·rename_i y a3 hb
   cases h
   have h1 := (tyBase_fwd hb).1
   have := s.open' 30 a [] a1 ls ho (by omega)
   rw [show ([] : List Int).map (· + b) = [] from rfl] at this
   rw [this]
   simp only
   rw [s.base hb (by omega)]
   simp only
   rw [shT_wrap, show a3 + k + 1 = a3 + 1 + k by omega]
  ·cases h
  ·cases h
structure SimF (n k dd : Nat) (b : Int) (f f' : Fns) : Prop where
 expr : ∀ lv a d, 1 ≤ lv → Rl n k dd (shX b) (f.expr lv a d) (f'.expr lv (a + k) (d + dd))
 oper : ∀ a d, Rl n k dd (shX b) (f.oper a d) (f'.oper (a + k) (d + dd))
 prim : ∀ a d, Rl n k dd (shX b) (f.prim a d) (f'.prim (a + k) (d + dd))
 list : ∀ to a d, Rl n k dd (fun r => (shXs b r.1, r.2 + b)) (f.list to a d) (f'.list to (a + k) (d + dd))
 bin : ∀ lv x a d, 1 ≤ lv → a ≤ n → Rl n k dd (shX b) (f.bin lv x a d) (f'.bin lv (shX b x) (a + k) (d + dd))
 post : ∀ x a d, a ≤ n → Rl n k dd (shX b) (f.post x a d) (f'.post (shX b x) (a + k) (d + dd))
 elts : ∀ acc a d, Rl n k dd (shXs b) (f.elts acc a d) (f'.elts (shXs b acc) (a + k) (d + dd))
theorem Rl.lt {α : Type} {sh : α → α} {r r' : R α} {a : Nat} (hp : ∀ v a', r = .ok v a' → a < a') (h : a < n → Rl n k dd sh r r') : Rl n k dd sh r r' := by
 intro v a' e ha
 have := hp v a' e
 exact h (by omega) v a' e ha
theorem Rl.le {α : Type} {sh : α → α} {r r' : R α} {a : Nat} (hp : ∀ v a', r = .ok v a' → a ≤ a') (h : a ≤ n → Rl n k dd sh r r') : Rl n k dd sh r r' := by
 intro v a' e ha
 have := hp v a' e
 exact h (by omega) v a' e ha
end
end Go.VM
end
section
/- Expressions: the same tokens elsewhere, or one bracket deeper, give the same expression, moved: proved. -/
set_option maxRecDepth 100000
set_option linter.unusedVariables false
set_option linter.unusedSimpArgs false
namespace Go.VM
open Go.RowKit
section
variable {n k dd : Nat} {b : Int} {l l' : List Tz}
theorem Same.num (s : Same n k b l l') {a d : Nat} (ha : a < n) : Rl n k dd id (numberF l (nowF l a).t a d) (numberF l' (nowF l' (a + k)).t (a + k) (d + dd)) := by
 rw [s.tok a ha]
 unfold numberF
 show Rl n k dd id (match numOk (nowF l a).t with | true => .ok (numV (nowF l a).t : Int) a | false => failF l a d 2) (match numOk (nowF l a).t with | true => .ok (numV (nowF l a).t : Int) (a + k) | false => failF l' (a + k) (d + dd) 2)
 cases numOk (nowF l a).t with
 | true => exact .ok fun _ => rfl
 | false => exact .er
theorem shX_ne (b : Int) {kk : Nat} {p e : Int} {nm : List Nat} {v : Int} {args : List Ex} (h : Nat.beq kk 8 = false) : shX b (.mk kk p e nm v zT args) = .mk kk (p + b) (e + b) nm v zT (shXs b args) := by
 simp only [shX, h]
theorem sim_list (s : Same n k b l l') {f f' : Fns} (pf : ProgF f) (h : SimF n k dd b f f') (to : List Nat) (a d : Nat) : Rl n k dd (fun r => (shXs b r.1, r.2 + b)) (nList l f to a d) (nList l' f' to (a + k) (d + dd)) := by
 intro v a' e ha
 unfold nList at e ⊢
 obtain ⟨es, a1, e1, e2⟩ := bind_ok e
 obtain ⟨z, a3, e3, e4⟩ := bind_ok e2
 cases e4
 obtain ⟨q1, q2, q3⟩ := must_okD e3
 have hlt : a1 < n := by omega
 have w : Rl a1 k dd (shXs b) (withinF l a d (nElt0 l f to)) (withinF l' (a + k) (d + dd) (nElt0 l' f' to)) := by
  refine Rl.within ?_
  intro es2 a2 e5 ha2
  have hp := nElt0_prog pf e5
  unfold nElt0 at e5 ⊢
  rw [s.is (by omega)]
  split at e5
  ·cases e5
   exact .inl rfl
  ·exact h.elts [] (a + 1) (d + 1) es2 a2 e5 (by omega)
 rcases w es a1 e1 (Nat.le_refl _) with h1 | ⟨h0, x, y, zz, h1⟩
 ·rw [h1]
  have m := s.must (dd := dd) z a' e3 ha
  rcases m with h2 | ⟨h0, x, y, zz, h2⟩
  ·refine .inl ?_
   show (mustF l' (a1 + k) (d + dd) to).bind _ = _
   rw [h2]
   rfl
  ·refine .inr ⟨h0, x, y, zz, ?_⟩
   show (mustF l' (a1 + k) (d + dd) to).bind _ = _
   rw [h2]
   rfl
 ·rw [h1]
  exact .inr ⟨h0, x, y, zz, rfl⟩
theorem sim_prim (s : Same n k b l l') {f f' : Fns} (pf : ProgF f) (h : SimF n k dd b f f') (a d : Nat) (ha : a < n) : Rl n k dd (shX b) (nPrim l f a d) (nPrim l' f' (a + k) (d + dd)) := by
 have hn := s.num (dd := dd) (d := d) ha
 unfold nPrim
 rw [s.is ha, s.is ha, s.is ha, s.is ha]
 rw [s.tok a ha] at hn ⊢
 simp only [show ∀ t : Tz, (shZ b t).k = t.k from fun _ => rfl, show ∀ t : Tz, (shZ b t).t = t.t from fun _ => rfl, show ∀ t : Tz, (shZ b t).a = t.a + b from fun _ => rfl, show ∀ t : Tz, (shZ b t).e = t.e + b from fun _ => rfl] at hn ⊢
 have tk : a + k + 1 = a + 1 + k := by omega
 rw [tk]
 split
 ·refine hn.bind (fun v a1 w a' e1 e2 => ?_) fun v a1 _ _ => .ok fun _ => ?_
  ·cases e2
   unfold numberF at e1
   split at e1
   ·cases e1; omega
   ·cases e1
  ·rw [shX_ne b rfl]; rfl
 ·split
  ·split
   ·exact .ok fun _ => by rw [shX_ne b rfl]; rfl
   ·exact .er
  ·split
   ·exact .ok fun _ => by rw [shX_ne b rfl]; rfl
   ·split
    ·exact .ok fun _ => by rw [shX_ne b rfl]; rfl
    ·split
     ·exact .ok fun _ => by rw [shX_ne b rfl]; rfl
     ·split
      ·refine (Rl.within (h.expr 1 (a + 1) (d + 1) (Nat.le_refl _))).bind (fun v a1 w a' e1 e2 => ?_) fun x a1 _ ha1 => (s.must (a := a1) (d := d)).bind (fun v a1 w a' e1 e2 => ?_) fun _ a2 _ _ => .ok fun _ => rfl
       ·obtain ⟨z, a2, e3, e4⟩ := bind_ok e2
        cases e4
        have := (must_okD e3).2.1
        omega
       ·cases e2; exact Nat.le_refl _
      ·split
       ·intro v a' e ha'
        obtain ⟨ty, a1, r, ht, hi, e1, rfl⟩ := made_okD e
        have p1 := pf.list _ _ _ _ _ e1
        have tl := s.ty ht (by omega)
        unfold madeF
        rw [tk, tl]
        simp only
        rw [s.is (by omega), hi]
        simp only
        rcases h.list [125] a1 d r a' e1 ha' with h2 | ⟨h0, x, y, zz, h2⟩
        ·rw [h2]
         exact .inl rfl
        ·rw [h2]
         exact .inr ⟨h0, x, y, zz, rfl⟩
       ·exact .er
theorem sim_post (s : Same n k b l l') {f f' : Fns} (pf : ProgF f) (h : SimF n k dd b f f') (x : Ex) (a d : Nat) (ha : a ≤ n) : Rl n k dd (shX b) (nPost l f x a d) (nPost l' f' (shX b x) (a + k) (d + dd)) := by
 rcases Nat.eq_or_lt_of_le ha with rfl | ha
 ·intro v a' e ha'
  unfold nPost at e ⊢
  rw [s.isS (.inl rfl), s.isS (.inr (.inl rfl)), s.isS (.inr (.inr (.inl rfl)))]
  simp only
  split at e
  ·split at e
   ·have := pf.post _ _ _ _ _ e; omega
   ·cases e
  ·split at e
   ·obtain ⟨r, a1, e1, e2⟩ := bind_ok e
    have := pf.list _ _ _ _ _ e1
    have := pf.post _ _ _ _ _ e2
    omega
   ·split at e
    ·obtain ⟨z, a1, e1, e2⟩ := bind_ok e
     obtain ⟨w, a2, e3, e4⟩ := bind_ok e2
     have := pf.expr _ _ _ _ _ (within_okD e1)
     have := (must_okD e3).2.1
     have := pf.post _ _ _ _ _ e4
     omega
    ·cases e; exact .inl rfl
 ·unfold nPost
  rw [s.is ha, s.is ha, s.is ha, shX_at]
  split
  ·intro v a' e ha'
   split at e
   ·rename_i hk
    have hp := pf.post _ _ _ _ _ e
    have e1 := s.tok (a + 1) (by omega)
    rw [show a + k + 1 = a + 1 + k by omega, e1]
    simp only [show ∀ t : Tz, (shZ b t).k = t.k from fun _ => rfl, show ∀ t : Tz, (shZ b t).t = t.t from fun _ => rfl, show ∀ t : Tz, (shZ b t).e = t.e + b from fun _ => rfl]
    rw [hk]
    simp only
    have := h.post _ (a + 1 + 1) d (by omega) v a' e ha'
    rw [shX_ne b rfl] at this
    rw [show a + 1 + k + 1 = a + 1 + 1 + k by omega]
    exact this
   ·cases e
  ·split
   ·refine (h.list [41] a d).bind (fun v a1 w a' e1 e2 => pf.post _ _ _ _ _ e2) fun r a1 _ ha1 => ?_
    have := h.post (.mk 6 x.at' r.2 [] 0 zT (x :: r.1)) a1 d ha1
    rw [shX_ne b rfl] at this
    exact this
   ·split
    ·refine (Rl.within (h.expr 1 (a + 1) (d + 1) (Nat.le_refl _))).bind (fun v a1 w a' e1 e2 => ?_) fun z a1 _ ha1 => (s.must (a := a1) (d := d)).bind (fun v a1 w a' e1 e2 => pf.post _ _ _ _ _ e2) fun e a2 _ ha2 => ?_
     ·obtain ⟨w, a2, e3, e4⟩ := bind_ok e2
      have := (must_okD e3).2.1
      have := pf.post _ _ _ _ _ e4
      omega
     ·have := h.post (.mk 7 x.at' e [] 0 zT [x, z]) a2 d ha2
      rw [shX_ne b rfl] at this
      exact this
    ·exact .ok fun _ => rfl
theorem sim_next (s : Same n k b l l') {f f' : Fns} (pf : ProgF f) (h : SimF n k dd b f f') : SimF n k dd b ⟨nExpr f, nOper l f, nPrim l f, nList l f, nBin l f, nPost l f, nElts l f⟩ ⟨nExpr f', nOper l' f', nPrim l' f', nList l' f', nBin l' f', nPost l' f', nElts l' f'⟩ := by
 have pn := prog_next (l := l) pf
 refine ⟨fun lv a d hlv => ?_, fun a d => ?_, fun a d => ?_, fun to a d => sim_list s pf h to a d, fun lv x a d hlv ha => ?_, fun x a d ha => sim_post s pf h x a d ha, fun acc a d => ?_⟩
 ·show Rl n k dd (shX b) (nExpr f lv a d) (nExpr f' lv (a + k) (d + dd))
  unfold nExpr
  split
  ·exact h.oper a d
  ·exact (h.expr (lv + 1) a d (by omega)).bind (fun v a1 w a' e1 e2 => pf.bin _ _ _ _ _ _ e2) fun v a1 _ ha => h.bin lv v a1 d hlv ha
 ·show Rl n k dd (shX b) (nOper l f a d) (nOper l' f' (a + k) (d + dd))
  refine Rl.lt (pn.oper a d) fun ha => ?_
  unfold nOper
  rw [s.is ha, s.tok a ha]
  split
  ·refine (Rl.within (h.oper (a + 1) (d + 1))).bind (fun v a1 w a' e1 e2 => by cases e2; exact Nat.le_refl _) fun x a1 _ _ => .ok fun _ => ?_
   rw [shX_ne b rfl, shX_en]
   rfl
  ·exact (h.prim a d).bind (fun v a1 w a' e1 e2 => pf.post _ _ _ _ _ e2) fun v a1 _ ha1 => h.post v a1 d ha1
 ·exact Rl.lt (pn.prim a d) fun ha => sim_prim s pf h a d ha
 ·show Rl n k dd (shX b) (nBin l f lv x a d) (nBin l' f' lv (shX b x) (a + k) (d + dd))
  rcases Nat.eq_or_lt_of_le ha with rfl | ha
  ·intro v a' e ha'
   unfold nBin at e ⊢
   rw [s.binS hlv]
   simp only
   split at e
   ·obtain ⟨z, a2, e1, e2⟩ := bind_ok e
    have := pf.expr _ _ _ _ _ e1
    have := pf.bin _ _ _ _ _ _ e2
    omega
   ·cases e; exact .inl rfl
  ·unfold nBin
   rw [s.bin ha]
   split
   ·rw [show a + k + 1 = a + 1 + k by omega]
    refine (h.expr (lv + 1) (a + 1) d (by omega)).bind (fun v a1 w a' e1 e2 => pf.bin _ _ _ _ _ _ e2) fun y a2 _ ha2 => ?_
    have := h.bin lv (binX (nowF l a) x y) a2 d hlv ha2
    have e : binX (nowF l' (a + k)) (shX b x) (shX b y) = shX b (binX (nowF l a) x y) := by
     unfold binX
     rw [shX_ne b rfl, s.tok a ha, shX_at, shX_en]
     rfl
    rw [e]
    exact this
   ·exact .ok fun _ => rfl
 ·show Rl n k dd (shXs b) (nElts l f acc a d) (nElts l' f' (shXs b acc) (a + k) (d + dd))
  unfold nElts
  refine (h.expr 1 a d (Nat.le_refl _)).bind (fun v a1 w a' e1 e2 => ?_) fun x a1 _ ha1 => ?_
  ·split at e2
   ·have := pf.elts _ _ _ _ _ e2; omega
   ·cases e2; exact Nat.le_refl _
  ·have e0 : shXs b acc ++ [shX b x] = shXs b (acc ++ [x]) := by rw [shXs_app]; rfl
   rcases Nat.eq_or_lt_of_le ha1 with rfl | ha1
   ·intro v a' e ha'
    rw [s.isS (.inr (.inr (.inr rfl)))]
    simp only
    split at e
    ·have := pf.elts _ _ _ _ _ e; omega
    ·cases e
     rw [e0]
     exact .inl rfl
   ·rw [s.is ha1, e0]
    split
    ·rw [show a1 + k + 1 = a1 + 1 + k by omega]
     exact h.elts _ _ _
    ·exact .ok fun _ => rfl
theorem fns_sim (s : Same n k b l l') : ∀ N, SimF n k dd b (fns l N) (fns l' N)
 | 0 => ⟨fun _ _ _ _ => .out, fun _ _ => .out, fun _ _ => .out, fun _ _ _ => .out, fun _ _ _ _ _ _ => .out, fun _ _ _ _ => .out, fun _ _ _ => .out⟩
 | N + 1 => sim_next s (fns_prog l N) (fns_sim s N)
end
end Go.VM
end
