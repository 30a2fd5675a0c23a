/- laid for this seat: VyK VyL VyM VyN VyO VyP -/
import Derived.Test.YtipiffhjilidlaaDoorVg7
section
/- Expressions: the same tokens elsewhere, or one bracket deeper, give the same expression, moved. -/
set_option maxRecDepth 100000
set_option linter.unusedVariables false
set_option linter.unusedSimpArgs false
namespace Go.VM
open Go.RowKit
structure ProgF (f : Fns) : Prop where
 expr : ∀ lv a d x a', f.expr lv a d = .ok x a' → a < a'
 oper : ∀ a d x a', f.oper a d = .ok x a' → a < a'
 prim : ∀ a d x a', f.prim a d = .ok x a' → a < a'
 list : ∀ to a d r a', f.list to a d = .ok r a' → a < a'
 bin : ∀ lv x a d y a', f.bin lv x a d = .ok y a' → a ≤ a'
 post : ∀ x a d y a', f.post x a d = .ok y a' → a ≤ a'
 elts : ∀ acc a d es a', f.elts acc a d = .ok es a' → a < a'
theorem made_okD {l : List Tz} {f : Fns} {p : Int} {a d : Nat} {x : Ex} {a' : Nat} (e : madeF l f p a d = .ok x a') :
  ∃ ty a1 r, tyF l (a + 1) = .ok ty a1 ∧ isF l a1 4 [123] = true ∧ f.list [125] a1 d = .ok r a' ∧ x = .mk 8 p r.2 [] 0 ty r.1 := by
 unfold madeF at e
 split at e
 ·rename_i ty a1 ht
  split at e
  ·rename_i hi
   obtain ⟨r, a2, e1, e2⟩ := bind_ok e
   cases e2
   exact ⟨ty, a1, r, ht, hi, e1, rfl⟩
  ·cases e
 ·cases e
 ·cases e
theorem nElt0_prog {l : List Tz} {f : Fns} (h : ProgF f) {to : List Nat} {a d : Nat} {es : List Ex} {a' : Nat} (e : nElt0 l f to a d = .ok es a') : a ≤ a' := by
 unfold nElt0 at e
 split at e
 ·cases e; exact Nat.le_refl _
 ·exact Nat.le_of_lt (h.elts _ _ _ _ _ e)
theorem prog_next {l : List Tz} {f : Fns} (h : ProgF f) : ProgF ⟨nExpr f, nOper l f, nPrim l f, nList l f, nBin l f, nPost l f, nElts l f⟩ := by
 refine ⟨fun lv a d x a' e => ?_, fun a d x a' e => ?_, fun a d x a' e => ?_, fun to a d r a' e => ?_, fun lv x a d y a' e => ?_, fun x a d y a' e => ?_, fun acc a d es a' e => ?_⟩
 ·have e : nExpr f lv a d = .ok x a' := e
  unfold nExpr at e
  split at e
  ·exact h.oper _ _ _ _ e
  ·obtain ⟨y, a1, e1, e2⟩ := bind_ok e
   have := h.expr _ _ _ _ _ e1
   have := h.bin _ _ _ _ _ _ e2
   omega
 ·have e : nOper l f a d = .ok x a' := e
  unfold nOper at e
  split at e
  ·obtain ⟨y, a1, e1, e2⟩ := bind_ok e
   cases e2
   have := h.oper _ _ _ _ (within_okD e1)
   omega
  ·obtain ⟨y, a1, e1, e2⟩ := bind_ok e
   have := h.prim _ _ _ _ e1
   have := h.post _ _ _ _ _ e2
   omega
 ·have e : nPrim l f a d = .ok x a' := e
  unfold nPrim at e
  split at e
  ·obtain ⟨n, a1, e1, e2⟩ := bind_ok e
   cases e2
   exact Nat.lt_succ_self _
  ·split at e
   ·split at e
    ·cases e; exact Nat.lt_succ_self _
    ·cases e
   ·split at e
    ·cases e; exact Nat.lt_succ_self _
    ·split at e
     ·cases e; exact Nat.lt_succ_self _
     ·split at e
      ·cases e; exact Nat.lt_succ_self _
      ·split at e
       ·obtain ⟨y, a1, e1, e2⟩ := bind_ok e
        obtain ⟨z, a2, e3, e4⟩ := bind_ok e2
        cases e4
        have := h.expr _ _ _ _ _ (within_okD e1)
        have := (must_okD e3).2.1
        omega
       ·split at e
        ·obtain ⟨ty, a1, r, ht, hi, e1, _⟩ := made_okD e
         have := tyF_fwd ht
         have := h.list _ _ _ _ _ e1
         omega
        ·cases e
 ·have e : nList l f to a d = .ok r a' := e
  unfold nList at e
  obtain ⟨es, a1, e1, e2⟩ := bind_ok e
  obtain ⟨z, a3, e3, e4⟩ := bind_ok e2
  cases e4
  have := nElt0_prog h (within_okD e1)
  have := (must_okD e3).2.1
  omega
 ·have e : nBin l f lv x a d = .ok y a' := e
  unfold nBin at e
  split at e
  ·obtain ⟨z, a2, e1, e2⟩ := bind_ok e
   have := h.expr _ _ _ _ _ e1
   have := h.bin _ _ _ _ _ _ e2
   omega
  ·cases e; exact Nat.le_refl _
 ·have e : nPost l f x a d = .ok y a' := e
  unfold nPost at e
  split at e
  ·split at e
   ·have := h.post _ _ _ _ _ e; omega
   ·cases e
  ·split at e
   ·obtain ⟨r, a1, e1, e2⟩ := bind_ok e
    have := h.list _ _ _ _ _ e1
    have := h.post _ _ _ _ _ e2
    omega
   ·split at e
    ·obtain ⟨z, a1, e1, e2⟩ := bind_ok e
     obtain ⟨w, a2, e3, e4⟩ := bind_ok e2
     have := h.expr _ _ _ _ _ (within_okD e1)
     have := (must_okD e3).2.1
     have := h.post _ _ _ _ _ e4
     omega
    ·cases e; exact Nat.le_refl _
 ·have e : nElts l f acc a d = .ok es a' := e
  unfold nElts at e
  obtain ⟨x, a1, e1, e2⟩ := bind_ok e
  have := h.expr _ _ _ _ _ e1
  split at e2
  ·have := h.elts _ _ _ _ _ e2; omega
  ·cases e2; omega
theorem fns_prog (l : List Tz) : ∀ n, ProgF (fns l n)
 | 0 => ⟨fun _ _ _ _ _ e => (by cases e), fun _ _ _ _ e => (by cases e), fun _ _ _ _ e => (by cases e), fun _ _ _ _ _ e => (by cases e), fun _ _ _ _ _ _ e => (by cases e), fun _ _ _ _ _ e => (by cases e), fun _ _ _ _ _ e => (by cases e)⟩
 | n + 1 => prog_next (fns_prog l n)
def shZ (by' : Int) (t : Tz) : Tz := ⟨t.k, t.a + by', t.e + by', t.t⟩
mutual
def shT (by' : Int) : Tx → Tx
 | .mk k a p n l => .mk k (a + by') p n (shTs by' l)
def shTs (by' : Int) : List Tx → List Tx
 | [] => []
 | x :: l => shT by' x :: shTs by' l
end
mutual
def shX (by' : Int) : Ex → Ex
 | .mk k a e nm n t args => .mk k (a + by') (e + by') nm n (match Nat.beq k 8 with | true => shT by' t | false => t) (shXs by' args)
def shXs (by' : Int) : List Ex → List Ex
 | [] => []
 | x :: l => shX by' x :: shXs by' l
end
theorem shXs_app (b : Int) : ∀ l m : List Ex, shXs b (l ++ m) = shXs b l ++ shXs b m
 | [], m => rfl
 | x :: l, m => by simp only [shXs, List.cons_append, shXs_app b l m]
theorem shX_at (b : Int) : ∀ x : Ex, (shX b x).at' = x.at' + b
 | .mk .. => rfl
theorem shX_en (b : Int) : ∀ x : Ex, (shX b x).en = x.en + b
 | .mk .. => rfl
def Rl {α : Type} (n k dd : Nat) (sh : α → α) (r r' : R α) : Prop := ∀ v a', r = .ok v a' → a' ≤ n → r' = .ok (sh v) (a' + k) ∨ (0 < dd ∧ ∃ a1 d1 p, r' = .er a1 d1 p 6)
section
variable {n k dd : Nat}
theorem Rl.ok {α : Type} {sh : α → α} {v : α} {a : Nat} {r' : R α} (h : a ≤ n → r' = .ok (sh v) (a + k)) : Rl n k dd sh (.ok v a) r' := by
 intro w a' e ha
 cases e
 exact .inl (h ha)
theorem Rl.er {α : Type} {sh : α → α} {a d : Nat} {p c : Int} {r' : R α} : Rl n k dd sh (.er a d p c) r' := fun _ _ e => by cases e
theorem Rl.out {α : Type} {sh : α → α} {r' : R α} : Rl n k dd sh .out r' := fun _ _ e => by cases e
theorem Rl.bind {α β : Type} {s1 : α → α} {s2 : β → β} {r r' : R α} {f f' : α → Nat → R β} (h : Rl n k dd s1 r r') (p : ∀ v a1 w a', r = .ok v a1 → f v a1 = .ok w a' → a1 ≤ a')
  (q : ∀ v a1, r = .ok v a1 → a1 ≤ n → Rl n k dd s2 (f v a1) (f' (s1 v) (a1 + k))) : Rl n k dd s2 (r.bind f) (r'.bind f') := by
 intro w a' e ha
 obtain ⟨v, a1, e1, e2⟩ := bind_ok e
 have hp := p v a1 w a' e1 e2
 rcases h v a1 e1 (by omega) with h1 | ⟨h0, x, y, z, h1⟩
 ·rw [h1]
  exact q v a1 e1 (by omega) w a' e2 ha
 ·rw [h1]
  exact .inr ⟨h0, x, y, z, rfl⟩
theorem Rl.within {α : Type} {sh : α → α} {l l' : List Tz} {a d : Nat} {f f' : Nat → Nat → R α} (h : Rl n k dd sh (f (a + 1) (d + 1)) (f' (a + 1 + k) (d + 1 + dd))) : Rl n k dd sh (withinF l a d f) (withinF l' (a + k) (d + dd) f') := by
 intro v a' e ha
 have e1 := within_okD e
 by_cases h30 : d + dd = 30
 ·refine .inr ⟨?_, a + k, d + dd, (nowF l' (a + k)).a, ?_⟩
  ·rcases Nat.eq_zero_or_pos dd with h0 | h0
   ·subst h0
    unfold withinF at e
    rw [if_pos (by omega)] at e
    cases e
   ·exact h0
  ·unfold withinF
   rw [if_pos h30]
   rfl
 ·unfold withinF
  rw [if_neg h30, show a + k + 1 = a + 1 + k by omega, show d + dd + 1 = d + 1 + dd by omega]
  exact h v a' e1 ha
def stopB (t : Tz) : Bool := !decide (t.k = 4) || (Nat.beq (lev t.t) 0 && !decide (t.t = [46]) && !decide (t.t = [40]) && !decide (t.t = [91]) && !decide (t.t = [44]))
structure Same (n k : Nat) (b : Int) (l l' : List Tz) : Prop where
 tok : ∀ i, i < n → nowF l' (i + k) = shZ b (nowF l i)
 stop : stopB (nowF l' (n + k)) = true
variable {b : Int} {l l' : List Tz}
theorem Same.is (s : Same n k b l l') {i : Nat} (h : i < n) (kk : Int) (x : List Nat) : isF l' (i + k) kk x = isF l i kk x := by
 unfold isF
 rw [s.tok i h]
 rfl
theorem stop_sym {t : Tz} (h : stopB t = true) {x : List Nat} (hx : x = [46] ∨ x = [40] ∨ x = [91] ∨ x = [44]) : symB t x = false := by
 cases hs : symB t x with
 | false => rfl
 | true =>
  unfold symB at hs
  simp only [Bool.and_eq_true, decide_eq_true_eq] at hs
  unfold stopB at h
  rw [hs.1, hs.2] at h
  rcases hx with rfl | rfl | rfl | rfl <;> cases h
theorem Same.isS (s : Same n k b l l') {x : List Nat} (hx : x = [46] ∨ x = [40] ∨ x = [91] ∨ x = [44]) : isF l' (n + k) 4 x = false := stop_sym s.stop hx
theorem Same.bin (s : Same n k b l l') {i lv : Nat} (h : i < n) : binB lv (nowF l' (i + k)) = binB lv (nowF l i) := by
 rw [s.tok i h]; rfl
theorem Same.binS (s : Same n k b l l') {lv : Nat} (h : 1 ≤ lv) : binB lv (nowF l' (n + k)) = false := by
 cases hb : binB lv (nowF l' (n + k)) with
 | false => rfl
 | true =>
  unfold binB at hb
  simp only [Bool.and_eq_true, decide_eq_true_eq] at hb
  have := s.stop
  unfold stopB at this
  rw [hb.1] at this
  simp only [decide_true, Bool.not_true, Bool.false_or, Bool.and_eq_true] at this
  have := Nat.eq_of_beq_eq_true this.1.1.1.1
  have := hb.2
  omega
theorem Same.must (s : Same n k b l l') {a d : Nat} {x : List Nat} : Rl n k dd (· + b) (mustF l a d x) (mustF l' (a + k) (d + dd) x) := by
 intro v a' e ha
 obtain ⟨h1, h2, h3⟩ := must_okD e
 have hlt : a < n := by omega
 unfold mustF at e ⊢
 rw [s.is hlt]
 split at e
 ·cases e
  refine .inl ?_
  rw [s.tok a hlt]
  show R.ok ((nowF l a).e + b) (a + k + 1) = _
  rw [show a + k + 1 = a + 1 + k by omega]
 ·cases e
theorem Same.open' (s : Same n k b l l') : ∀ (m a : Nat) (ls : List Int) (a' : Nat) (ls' : List Int), tyOpen l m a ls = .brk a' ls' → a' < n → tyOpen l' m (a + k) (ls.map (· + b)) = .brk (a' + k) (ls'.map (· + b))
 | 0, a, ls, a', ls', h, ha => by
  simp only [tyOpen] at h ⊢
  split at h
  ·rename_i hs
   cases h
   have := s.is ha 4 [91]
   rw [isF_sym, isF_sym] at this
   rw [this, hs]
  ·cases h
 | m + 1, a, ls, a', ls', h, ha => by
  have hf := (tyOpen_fwd l (m + 1) a ls a' ls' h).1
  simp only [tyOpen] at h ⊢
  have h1 := s.is (i := a) (by omega) 4 [91]
  rw [isF_sym, isF_sym] at h1
  split at h
  ·rename_i hs
   cases h
   rw [h1, hs]
  ·rename_i hs
   rw [h1, hs]
   simp only
   split at h
   ·cases h
   ·rename_i hs2
    have hf2 := (tyOpen_fwd l m _ _ _ _ h).1
    have h2 := s.is (i := a + 1) (by omega) 4 [93]
    rw [isF_sym, isF_sym] at h2
    rw [show a + k + 1 = a + 1 + k by omega, h2, hs2]
    simp only
    have := Same.open' s m (a + 2) (ls ++ [(nowF l a).a]) a' ls' h ha
    rw [show a + k + 2 = a + 2 + k by omega, ← this, s.tok a (by omega)]
    simp [shZ]
theorem Same.base (s : Same n k b l l') {a : Nat} {x : Tx} {a2 : Nat} (h : tyBase l a = .ok x a2) (ha : a2 + 1 < n) : tyBase l' (a + k) = .ok (shT b x) (a2 + k) := by
 have hf := (tyBase_fwd h).1
 unfold tyBase at h ⊢
 have e0 := s.tok a (by omega)
 have e1 := s.tok (a + 1) (by omega)
 rw [e0, show a + k + 1 = a + 1 + k by omega, e1, show a + k + 2 = a + 2 + k by omega]
 simp only [show ∀ t : Tz, (shZ b t).k = t.k from fun _ => rfl, show ∀ t : Tz, (shZ b t).t = t.t from fun _ => rfl, show ∀ t : Tz, (shZ b t).a = t.a + b from fun _ => rfl, show ∀ (t : Tz) x, symB (shZ b t) x = symB t x from fun _ _ => rfl]
 split at h
 ·rename_i hc
  cases h
  try rw [hc]
  rfl
 ·rename_i hc
  try rw [hc]
  try simp only
  split at h
  ·rename_i hc
   try rw [hc]
   try simp only
   split at h
   ·rename_i hc
    try rw [hc]
    try simp only
    split at h
    ·rename_i hc
     cases h
     rw [s.tok (a + 2) (by omega)]
     simp only [show ∀ t : Tz, (shZ b t).k = t.k from fun _ => rfl, show ∀ t : Tz, (shZ b t).t = t.t from fun _ => rfl]
     try rw [hc]
     simp [shT, shTs]
    ·cases h
   ·rename_i hc
    cases h
    try rw [hc]
    rfl
  ·cases h
theorem shT_wrap (b : Int) : ∀ (ls : List Int) (x : Tx), shT b (tyWrap ls x) = tyWrap (ls.map (· + b)) (shT b x)
 | [], x => rfl
 | p :: ls, x => by simp only [tyWrap, List.map_cons, shT, shTs, shT_wrap b ls x]
theorem Same.ty (s : Same n k b l l') {a : Nat} {x : Tx} {a2 : Nat} (h : tyF l a = .ok x a2) (ha : a2 < n) : tyF l' (a + k) = .ok (shT b x) (a2 + k) := by
 unfold tyF at h ⊢
 split at h
 ·cases h
 ·rename_i a1 ls ho
  split at h
  ·rename_i y a3 hb
   cases h
   have h1 := (tyBase_fwd hb).1
   have := s.open' 30 a [] a1 ls ho (by omega)
   rw [show ([] : List Int).map (· + b) = [] from rfl] at this
   rw [this]
   simp only
   rw [s.base hb (by omega)]
   simp only
   rw [shT_wrap, show a3 + k + 1 = a3 + 1 + k by omega]
  ·cases h
  ·cases h
structure SimF (n k dd : Nat) (b : Int) (f f' : Fns) : Prop where
 expr : ∀ lv a d, 1 ≤ lv → Rl n k dd (shX b) (f.expr lv a d) (f'.expr lv (a + k) (d + dd))
 oper : ∀ a d, Rl n k dd (shX b) (f.oper a d) (f'.oper (a + k) (d + dd))
 prim : ∀ a d, Rl n k dd (shX b) (f.prim a d) (f'.prim (a + k) (d + dd))
 list : ∀ to a d, Rl n k dd (fun r => (shXs b r.1, r.2 + b)) (f.list to a d) (f'.list to (a + k) (d + dd))
 bin : ∀ lv x a d, 1 ≤ lv → a ≤ n → Rl n k dd (shX b) (f.bin lv x a d) (f'.bin lv (shX b x) (a + k) (d + dd))
 post : ∀ x a d, a ≤ n → Rl n k dd (shX b) (f.post x a d) (f'.post (shX b x) (a + k) (d + dd))
 elts : ∀ acc a d, Rl n k dd (shXs b) (f.elts acc a d) (f'.elts (shXs b acc) (a + k) (d + dd))
theorem Rl.lt {α : Type} {sh : α → α} {r r' : R α} {a : Nat} (hp : ∀ v a', r = .ok v a' → a < a') (h : a < n → Rl n k dd sh r r') : Rl n k dd sh r r' := by
 intro v a' e ha
 have := hp v a' e
 exact h (by omega) v a' e ha
theorem Rl.le {α : Type} {sh : α → α} {r r' : R α} {a : Nat} (hp : ∀ v a', r = .ok v a' → a ≤ a') (h : a ≤ n → Rl n k dd sh r r') : Rl n k dd sh r r' := by
 intro v a' e ha
 have := hp v a' e
 exact h (by omega) v a' e ha
end
end Go.VM
end
section
/- Expressions: the same tokens elsewhere, or one bracket deeper, give the same expression, moved: proved. -/
set_option maxRecDepth 100000
set_option linter.unusedVariables false
set_option linter.unusedSimpArgs false
namespace Go.VM
open Go.RowKit
section
variable {n k dd : Nat} {b : Int} {l l' : List Tz}
theorem Same.num (s : Same n k b l l') {a d : Nat} (ha : a < n) : Rl n k dd id (numberF l (nowF l a).t a d) (numberF l' (nowF l' (a + k)).t (a + k) (d + dd)) := by
 rw [s.tok a ha]
 unfold numberF
 show Rl n k dd id (match numOk (nowF l a).t with | true => .ok (numV (nowF l a).t : Int) a | false => failF l a d 2) (match numOk (nowF l a).t with | true => .ok (numV (nowF l a).t : Int) (a + k) | false => failF l' (a + k) (d + dd) 2)
 cases numOk (nowF l a).t with
 | true => exact .ok fun _ => rfl
 | false => exact .er
theorem shX_ne (b : Int) {kk : Nat} {p e : Int} {nm : List Nat} {v : Int} {args : List Ex} (h : Nat.beq kk 8 = false) : shX b (.mk kk p e nm v zT args) = .mk kk (p + b) (e + b) nm v zT (shXs b args) := by
 simp only [shX, h]
theorem sim_list (s : Same n k b l l') {f f' : Fns} (pf : ProgF f) (h : SimF n k dd b f f') (to : List Nat) (a d : Nat) : Rl n k dd (fun r => (shXs b r.1, r.2 + b)) (nList l f to a d) (nList l' f' to (a + k) (d + dd)) := by
 intro v a' e ha
 unfold nList at e ⊢
 obtain ⟨es, a1, e1, e2⟩ := bind_ok e
 obtain ⟨z, a3, e3, e4⟩ := bind_ok e2
 cases e4
 obtain ⟨q1, q2, q3⟩ := must_okD e3
 have hlt : a1 < n := by omega
 have w : Rl a1 k dd (shXs b) (withinF l a d (nElt0 l f to)) (withinF l' (a + k) (d + dd) (nElt0 l' f' to)) := by
  refine Rl.within ?_
  intro es2 a2 e5 ha2
  have hp := nElt0_prog pf e5
  unfold nElt0 at e5 ⊢
  rw [s.is (by omega)]
  split at e5
  ·cases e5
   exact .inl rfl
  ·exact h.elts [] (a + 1) (d + 1) es2 a2 e5 (by omega)
 rcases w es a1 e1 (Nat.le_refl _) with h1 | ⟨h0, x, y, zz, h1⟩
 ·rw [h1]
  have m := s.must (dd := dd) z a' e3 ha
  rcases m with h2 | ⟨h0, x, y, zz, h2⟩
  ·refine .inl ?_
   show (mustF l' (a1 + k) (d + dd) to).bind _ = _
   rw [h2]
   rfl
  ·refine .inr ⟨h0, x, y, zz, ?_⟩
   show (mustF l' (a1 + k) (d + dd) to).bind _ = _
   rw [h2]
   rfl
 ·rw [h1]
  exact .inr ⟨h0, x, y, zz, rfl⟩
theorem sim_prim (s : Same n k b l l') {f f' : Fns} (pf : ProgF f) (h : SimF n k dd b f f') (a d : Nat) (ha : a < n) : Rl n k dd (shX b) (nPrim l f a d) (nPrim l' f' (a + k) (d + dd)) := by
 have hn := s.num (dd := dd) (d := d) ha
 unfold nPrim
 rw [s.is ha, s.is ha, s.is ha, s.is ha]
 rw [s.tok a ha] at hn ⊢
 simp only [show ∀ t : Tz, (shZ b t).k = t.k from fun _ => rfl, show ∀ t : Tz, (shZ b t).t = t.t from fun _ => rfl, show ∀ t : Tz, (shZ b t).a = t.a + b from fun _ => rfl, show ∀ t : Tz, (shZ b t).e = t.e + b from fun _ => rfl] at hn ⊢
 have tk : a + k + 1 = a + 1 + k := by omega
 rw [tk]
 split
 ·refine hn.bind (fun v a1 w a' e1 e2 => ?_) fun v a1 _ _ => .ok fun _ => ?_
  ·cases e2
   unfold numberF at e1
   split at e1
   ·cases e1; omega
   ·cases e1
  ·rw [shX_ne b rfl]; rfl
 ·split
  ·split
   ·exact .ok fun _ => by rw [shX_ne b rfl]; rfl
   ·exact .er
  ·split
   ·exact .ok fun _ => by rw [shX_ne b rfl]; rfl
   ·split
    ·exact .ok fun _ => by rw [shX_ne b rfl]; rfl
    ·split
     ·exact .ok fun _ => by rw [shX_ne b rfl]; rfl
     ·split
      ·refine (Rl.within (h.expr 1 (a + 1) (d + 1) (Nat.le_refl _))).bind (fun v a1 w a' e1 e2 => ?_) fun x a1 _ ha1 => (s.must (a := a1) (d := d)).bind (fun v a1 w a' e1 e2 => ?_) fun _ a2 _ _ => .ok fun _ => rfl
       ·obtain ⟨z, a2, e3, e4⟩ := bind_ok e2
        cases e4
        have := (must_okD e3).2.1
        omega
       ·cases e2; exact Nat.le_refl _
      ·split
       ·intro v a' e ha'
        obtain ⟨ty, a1, r, ht, hi, e1, rfl⟩ := made_okD e
        have p1 := pf.list _ _ _ _ _ e1
        have tl := s.ty ht (by omega)
        unfold madeF
        rw [tk, tl]
        simp only
        rw [s.is (by omega), hi]
        simp only
        rcases h.list [125] a1 d r a' e1 ha' with h2 | ⟨h0, x, y, zz, h2⟩
        ·rw [h2]
         exact .inl rfl
        ·rw [h2]
         exact .inr ⟨h0, x, y, zz, rfl⟩
       ·exact .er
theorem sim_post (s : Same n k b l l') {f f' : Fns} (pf : ProgF f) (h : SimF n k dd b f f') (x : Ex) (a d : Nat) (ha : a ≤ n) : Rl n k dd (shX b) (nPost l f x a d) (nPost l' f' (shX b x) (a + k) (d + dd)) := by
 rcases Nat.eq_or_lt_of_le ha with rfl | ha
 ·intro v a' e ha'
  unfold nPost at e ⊢
  rw [s.isS (.inl rfl), s.isS (.inr (.inl rfl)), s.isS (.inr (.inr (.inl rfl)))]
  simp only
  split at e
  ·split at e
   ·have := pf.post _ _ _ _ _ e; omega
   ·cases e
  ·split at e
   ·obtain ⟨r, a1, e1, e2⟩ := bind_ok e
    have := pf.list _ _ _ _ _ e1
    have := pf.post _ _ _ _ _ e2
    omega
   ·split at e
    ·obtain ⟨z, a1, e1, e2⟩ := bind_ok e
     obtain ⟨w, a2, e3, e4⟩ := bind_ok e2
     have := pf.expr _ _ _ _ _ (within_okD e1)
     have := (must_okD e3).2.1
     have := pf.post _ _ _ _ _ e4
     omega
    ·cases e; exact .inl rfl
 ·unfold nPost
  rw [s.is ha, s.is ha, s.is ha, shX_at]
  split
  ·intro v a' e ha'
   split at e
   ·rename_i hk
    have hp := pf.post _ _ _ _ _ e
    have e1 := s.tok (a + 1) (by omega)
    rw [show a + k + 1 = a + 1 + k by omega, e1]
    simp only [show ∀ t : Tz, (shZ b t).k = t.k from fun _ => rfl, show ∀ t : Tz, (shZ b t).t = t.t from fun _ => rfl, show ∀ t : Tz, (shZ b t).e = t.e + b from fun _ => rfl]
    rw [hk]
    simp only
    have := h.post _ (a + 1 + 1) d (by omega) v a' e ha'
    rw [shX_ne b rfl] at this
    rw [show a + 1 + k + 1 = a + 1 + 1 + k by omega]
    exact this
   ·cases e
  ·split
   ·refine (h.list [41] a d).bind (fun v a1 w a' e1 e2 => pf.post _ _ _ _ _ e2) fun r a1 _ ha1 => ?_
    have := h.post (.mk 6 x.at' r.2 [] 0 zT (x :: r.1)) a1 d ha1
    rw [shX_ne b rfl] at this
    exact this
   ·split
    ·refine (Rl.within (h.expr 1 (a + 1) (d + 1) (Nat.le_refl _))).bind (fun v a1 w a' e1 e2 => ?_) fun z a1 _ ha1 => (s.must (a := a1) (d := d)).bind (fun v a1 w a' e1 e2 => pf.post _ _ _ _ _ e2) fun e a2 _ ha2 => ?_
     ·obtain ⟨w, a2, e3, e4⟩ := bind_ok e2
      have := (must_okD e3).2.1
      have := pf.post _ _ _ _ _ e4
      omega
     ·have := h.post (.mk 7 x.at' e [] 0 zT [x, z]) a2 d ha2
      rw [shX_ne b rfl] at this
      exact this
    ·exact .ok fun _ => rfl
theorem sim_next (s : Same n k b l l') {f f' : Fns} (pf : ProgF f) (h : SimF n k dd b f f') : SimF n k dd b ⟨nExpr f, nOper l f, nPrim l f, nList l f, nBin l f, nPost l f, nElts l f⟩ ⟨nExpr f', nOper l' f', nPrim l' f', nList l' f', nBin l' f', nPost l' f', nElts l' f'⟩ := by
 have pn := prog_next (l := l) pf
 refine ⟨fun lv a d hlv => ?_, fun a d => ?_, fun a d => ?_, fun to a d => sim_list s pf h to a d, fun lv x a d hlv ha => ?_, fun x a d ha => sim_post s pf h x a d ha, fun acc a d => ?_⟩
 ·show Rl n k dd (shX b) (nExpr f lv a d) (nExpr f' lv (a + k) (d + dd))
  unfold nExpr
  split
  ·exact h.oper a d
  ·exact (h.expr (lv + 1) a d (by omega)).bind (fun v a1 w a' e1 e2 => pf.bin _ _ _ _ _ _ e2) fun v a1 _ ha => h.bin lv v a1 d hlv ha
 ·show Rl n k dd (shX b) (nOper l f a d) (nOper l' f' (a + k) (d + dd))
  refine Rl.lt (pn.oper a d) fun ha => ?_
  unfold nOper
  rw [s.is ha, s.tok a ha]
  split
  ·refine (Rl.within (h.oper (a + 1) (d + 1))).bind (fun v a1 w a' e1 e2 => by cases e2; exact Nat.le_refl _) fun x a1 _ _ => .ok fun _ => ?_
   rw [shX_ne b rfl, shX_en]
   rfl
  ·exact (h.prim a d).bind (fun v a1 w a' e1 e2 => pf.post _ _ _ _ _ e2) fun v a1 _ ha1 => h.post v a1 d ha1
 ·exact Rl.lt (pn.prim a d) fun ha => sim_prim s pf h a d ha
 ·show Rl n k dd (shX b) (nBin l f lv x a d) (nBin l' f' lv (shX b x) (a + k) (d + dd))
  rcases Nat.eq_or_lt_of_le ha with rfl | ha
  ·intro v a' e ha'
   unfold nBin at e ⊢
   rw [s.binS hlv]
   simp only
   split at e
   ·obtain ⟨z, a2, e1, e2⟩ := bind_ok e
    have := pf.expr _ _ _ _ _ e1
    have := pf.bin _ _ _ _ _ _ e2
    omega
   ·cases e; exact .inl rfl
  ·unfold nBin
   rw [s.bin ha]
   split
   ·rw [show a + k + 1 = a + 1 + k by omega]
    refine (h.expr (lv + 1) (a + 1) d (by omega)).bind (fun v a1 w a' e1 e2 => pf.bin _ _ _ _ _ _ e2) fun y a2 _ ha2 => ?_
    have := h.bin lv (binX (nowF l a) x y) a2 d hlv ha2
    have e : binX (nowF l' (a + k)) (shX b x) (shX b y) = shX b (binX (nowF l a) x y) := by
     unfold binX
     rw [shX_ne b rfl, s.tok a ha, shX_at, shX_en]
     rfl
    rw [e]
    exact this
   ·exact .ok fun _ => rfl
 ·show Rl n k dd (shXs b) (nElts l f acc a d) (nElts l' f' (shXs b acc) (a + k) (d + dd))
  unfold nElts
  refine (h.expr 1 a d (Nat.le_refl _)).bind (fun v a1 w a' e1 e2 => ?_) fun x a1 _ ha1 => ?_
  ·split at e2
   ·have := pf.elts _ _ _ _ _ e2; omega
   ·cases e2; exact Nat.le_refl _
  ·have e0 : shXs b acc ++ [shX b x] = shXs b (acc ++ [x]) := by rw [shXs_app]; rfl
   rcases Nat.eq_or_lt_of_le ha1 with rfl | ha1
   ·intro v a' e ha'
    rw [s.isS (.inr (.inr (.inr rfl)))]
    simp only
    split at e
    ·have := pf.elts _ _ _ _ _ e; omega
    ·cases e
     rw [e0]
     exact .inl rfl
   ·rw [s.is ha1, e0]
    split
    ·rw [show a1 + k + 1 = a1 + 1 + k by omega]
     exact h.elts _ _ _
    ·exact .ok fun _ => rfl
theorem fns_sim (s : Same n k b l l') : ∀ N, SimF n k dd b (fns l N) (fns l' N)
 | 0 => ⟨fun _ _ _ _ => .out, fun _ _ => .out, fun _ _ => .out, fun _ _ _ => .out, fun _ _ _ _ _ _ => .out, fun _ _ _ _ => .out, fun _ _ _ => .out⟩
 | N + 1 => sim_next s (fns_prog l N) (fns_sim s N)
end
end Go.VM
end
section
/- Expressions: the tokens of a text within brackets. -/
set_option maxRecDepth 100000
set_option linter.unusedVariables false
set_option linter.unusedSimpArgs false
namespace Go.VM
open Go.RowKit
def brS (s : List Nat) : List Nat := 40 :: (s ++ [10, 41])
theorem brS_len (s : List Nat) : (brS s).length = s.length + 3 := by simp [brS]
theorem brS_drop {s : List Nat} {i : Nat} (h : i ≤ s.length) : (brS s).drop (i + 1) = s.drop i ++ [10, 41] := by
 show (s ++ [10, 41]).drop i = _
 rw [List.drop_append_of_le_length h]
theorem brS_drop1 (s : List Nat) : (brS s).drop (s.length + 1) = [10, 41] := by rw [brS_drop (Nat.le_refl _)]; simp
theorem brS_drop2 (s : List Nat) : (brS s).drop (s.length + 2) = [41] := by
 have : (brS s).drop (s.length + 2) = ((brS s).drop (s.length + 1)).drop 1 := by rw [List.drop_drop]
 rw [this, brS_drop1]; rfl
theorem brS_drop3 (s : List Nat) : (brS s).drop (s.length + 3) = [] := List.drop_eq_nil_of_le (by rw [brS_len]; omega)
theorem brS_get {s : List Nat} {i c : Nat} (h : s[i]? = some c) : (brS s)[i + 1]? = some c := by
 have := (List.getElem?_eq_some_iff.1 h).1
 show (s ++ [10, 41])[i]? = _
 rw [List.getElem?_append_left this, h]
theorem brS_get2 (s : List Nat) : (brS s)[s.length + 2]? = some 41 := by
 show (s ++ [10, 41])[s.length + 1]? = _
 rw [List.getElem?_append_right (by omega), show s.length + 1 - s.length = 1 by omega]
 rfl
theorem cnt_nl {p : Nat → Bool} (h : p 10 = false) : ∀ l : List Nat, cntF p (l ++ [10, 41]) = cntF p l
 | [] => by show cntF p [10, 41] = 0; rw [cntF, h]
 | c :: l => by
  rw [List.cons_append, cntF, cntF, cnt_nl h l]
theorem cnt_blank : ∀ l : List Nat, cntF blankB (l ++ [10, 41]) = if cntF blankB l = l.length then l.length + 1 else cntF blankB l
 | [] => by decide
 | c :: l => by
  rw [List.cons_append, cntF, cntF, cnt_blank l]
  cases blankB c with
  | false => simp
  | true =>
   simp only [List.length_cons]
   split
   ·rename_i e; rw [if_pos (by omega)]
   ·rename_i e; rw [if_neg (by omega)]
theorem pfx_nl {x : Nat} (h : x ≠ 10) : ∀ l : List Nat, pfxB (l ++ [10, 41]) [x, x] = pfxB l [x, x]
 | [] => by simp [pfxB]; omega
 | [c] => by simp [pfxB]; omega
 | c :: d :: l => by simp [pfxB]
def gp (N i : Nat) : Nat := if i = N then N + 2 else i + 1
theorem skip_br (s : List Nat) : ∀ (m i : Nat), i ≤ s.length → s.length < i + m → ∀ m', m ≤ m' → skipF (brS s) m' (i + 1) = gp s.length (skipF s m i)
 | 0, i, h1, h2, m', h => by omega
 | m + 1, i, h1, h2, 0, h => by omega
 | m + 1, i, h1, h2, m' + 1, h => by
  have cb := cnt_blank (s.drop i)
  have cl := cntF_le blankB (s.drop i)
  rw [List.length_drop] at cb cl
  rw [skipF, skipF, brS_drop h1, cb]
  generalize cntF blankB (s.drop i) = q at cb cl
  by_cases hq : q = s.length - i
  ·rw [if_pos hq]
   have e1 : i + 1 + (s.length - i + 1) = s.length + 2 := by omega
   have e2 : i + q = s.length := by omega
   rw [e1, brS_drop2, e2, List.drop_length]
   rw [if_neg (by decide), if_neg (by decide)]
   simp [gp]
  ·rw [if_neg hq]
   have e1 : i + 1 + q = i + q + 1 := by omega
   rw [e1, brS_drop (by omega), pfx_nl (by decide), cnt_nl (p := lineB) (by decide)]
   split
   ·rename_i hp
    have c2 := pfx_cnt hp
    have c3 := cntF_le lineB (s.drop (i + q))
    rw [List.length_drop] at c3
    rw [show i + q + 1 + cntF lineB (s.drop (i + q)) = i + q + cntF lineB (s.drop (i + q)) + 1 by omega]
    exact skip_br s m _ (by omega) (by omega) m' (by omega)
   ·unfold gp
    rw [if_neg (by omega)]
theorem tok_br {s : List Nat} {i c : Nat} (hc : s[i]? = some c) {t : Tk} (h : tokF s i c = (t, 0)) : tokF (brS s) (i + 1) c = (⟨t.kind, t.a + 1, t.e + 1, []⟩, 0) ∧ ((brS s).drop (i + 1)).take (t.e + 1 - (i + 1)) = (s.drop i).take (t.e - i) := by
 have hi := (List.getElem?_eq_some_iff.1 hc).1
 have hp := tokF_pos hc (by rw [h])
 rw [h] at hp
 have hp2 : t.e ≤ s.length := hp.2.1
 have hd := brS_drop (Nat.le_of_lt hi)
 have hd2 := brS_drop (s := s) (i := i + 1) hi
 constructor
 ·cases hL : letterB c with
  | true =>
   rw [tokF_letter hL] at h ⊢
   rw [hd, cnt_nl (p := partB) (by decide)]
   have hn := cntF_le partB (s.drop i)
   rw [List.take_append_of_le_length hn]
   simp only [Prod.mk.injEq] at h
   obtain ⟨rfl, h2⟩ := h
   rw [h2, show i + 1 + cntF partB (s.drop i) = i + cntF partB (s.drop i) + 1 by omega]
  | false =>
  cases hD : digitB c with
  | true =>
   rw [tokF_digit hL hD] at h ⊢
   rw [hd, cnt_nl (p := digitB) (by decide)]
   simp only [Prod.mk.injEq] at h
   obtain ⟨rfl, h2⟩ := h
   rw [h2, show i + 1 + cntF digitB (s.drop i) = i + cntF digitB (s.drop i) + 1 by omega]
  | false =>
  by_cases h34 : c = 34
  ·rw [tokF_quot hL hD h34] at h ⊢
   have q1 : qEnd (brS s) (i + 1) = qEnd s i + 1 := by
    unfold qEnd
    rw [hd2, cnt_nl (p := quoteB) (by decide)]; omega
   unfold quotF at h ⊢
   have q2 : qBad s i = false := by
    cases hb : qBad s i with
    | false => rfl
    | true => rw [hb] at h; cases h
   have q3 : qBad (brS s) (i + 1) = false := by
    unfold qBad at q2 ⊢
    rw [q1, hd2, cnt_nl (p := quoteB) (by decide)]
    simp only [Bool.or_eq_false_iff] at q2 ⊢
    refine ⟨?_, q2.2⟩
    have q4 := q2.1
    cases hx : s[qEnd s i]? with
    | none => rw [hx] at q4; cases q4
    | some x => rw [hx] at q4; rw [brS_get hx]; exact q4
   rw [q2] at h
   rw [q3, q1]
   simp only [Prod.mk.injEq] at h
   obtain ⟨rfl, _⟩ := h
   rfl
  have e61 := pfx_nl (x := 61) (by decide) (s.drop i)
  have e38 := pfx_nl (x := 38) (by decide) (s.drop i)
  cases hp2 : (pfxB (s.drop i) [61, 61] || pfxB (s.drop i) [38, 38]) with
  | true =>
   rw [tokF_two hL hD h34 hp2] at h
   rw [tokF_two hL hD h34 (by rw [hd, e61, e38]; exact hp2)]
   simp only [Prod.mk.injEq] at h
   obtain ⟨rfl, _⟩ := h
   rfl
  | false =>
   rw [tokF_one hL hD h34 hp2] at h
   rw [tokF_one hL hD h34 (by rw [hd, e61, e38]; exact hp2)]
   simp only [Prod.mk.injEq] at h
   obtain ⟨rfl, h2⟩ := h
   rw [h2]
 ·rw [hd, show t.e + 1 - (i + 1) = t.e - i by omega, List.take_append_of_le_length (by rw [List.length_drop]; omega)]
def sh1 (t : Tk) : Tk := ⟨t.kind, t.a + 1, t.e + 1, t.text⟩
def shutT (N : Nat) : List Tk := [⟨4, N + 2, N + 3, [41]⟩, ⟨0, N + 3, N + 3, []⟩]
theorem lexL_end (s l' : List Nat) (L : List Tk) (hL : L.length < 4000) (m : Nat) : lexL (brS s) (m + 2) (s.length + 2) L = (L ++ shutT s.length, 0, 0) := by
 rw [lexL, brS_get2]
 have ht : tokF (brS s) (s.length + 2) 41 = (⟨4, s.length + 2, s.length + 2 + 1, []⟩, 0) := by
  rw [tokF_one (by decide) (by decide) (by decide) (by rw [brS_drop2]; decide)]
  rw [show decide (ibV 41 symL < 0) = false from by decide]
 simp only [tokW, ht, if_neg (show ¬ L.length ≥ 4000 by omega)]
 rw [brS_drop2, show skipF (brS s) ((brS s).length + 1) (s.length + 2 + 1) = s.length + 3 from by
  rw [skipF, brS_drop3]; rw [show cntF blankB [] = 0 from rfl, Nat.add_zero, brS_drop3, if_neg (by decide)]]
 rw [lexL, show (brS s)[s.length + 3]? = none from List.getElem?_eq_none (by rw [brS_len]; omega)]
 simp only [endTk, brS_len, shutT, List.append_assoc]
 rw [show s.length + 2 + 1 - (s.length + 2) = 1 by omega]
 rfl
theorem lexL_br (s : List Nat) : ∀ (m i : Nat) (l T : List Tk) (x : Nat), i ≤ s.length → s.length + 1 ≤ m + i → lexL s m i l = (T, x, 0) → T.length ≤ 3990 → ∀ (m' : Nat) (l' : List Tk), m + 2 ≤ m' → l'.length = l.length + 1 →
  ∃ r, T = l ++ r ++ [endTk s] ∧ lexL (brS s) m' (gp s.length i) l' = (l' ++ r.map sh1 ++ shutT s.length, 0, 0) := by
 intro m
 induction m with
 | zero => intro i l T x h1 h2; omega
 | succ m ih =>
  intro i l T x h1 h2 h hT m' l' hm hl
  obtain ⟨q, hq⟩ := lexL_tl s (m + 1) i l T x h1 h2 h
  have hlT2 : T.length = l.length + q.length := by rw [hq.1, List.length_append]
  have hlT : l.length ≤ 3990 := by omega
  simp only [lexL] at h
  cases hc : s[i]? with
  | none =>
   rw [hc] at h
   cases h
   have hi : s.length ≤ i := List.getElem?_eq_none_iff.1 hc
   have hi : i = s.length := by omega
   refine ⟨[], by simp, ?_⟩
   obtain ⟨m2, rfl⟩ : ∃ m2, m' = m2 + 2 := ⟨m' - 2, by omega⟩
   rw [show gp s.length i = s.length + 2 by simp [gp, hi], lexL_end s [] l' (by omega)]
   simp
  | some c =>
   have hi := (List.getElem?_eq_some_iff.1 hc).1
   rw [hc] at h
   simp only [tokW] at h
   split at h
   ·rename_i t ht
    rw [Prod.mk.injEq] at ht
    obtain ⟨ht1, ht2⟩ := ht
    have hz : (tokF s i c).2 = 0 := by
     split at ht2
     ·cases ht2
     ·exact ht2
    have h0 : tokF s i c = (t, 0) := by rw [← ht1, ← hz]
    obtain ⟨b1, b2⟩ := tok_br hc h0
    have hp := tokF_pos hc hz
    rw [ht1] at hp
    have hsk := skipF_le s (s.length + 1) t.e hp.2.1
    have hge := skipF_ge s (s.length + 1) t.e
    obtain ⟨m2, rfl⟩ : ∃ m2, m' = m2 + 1 := ⟨m' - 1, by omega⟩
    have ih2 := ih _ _ _ _ hsk (by omega) h hT m2 (l' ++ [⟨t.kind, t.a + 1, t.e + 1, (s.drop i).take (t.e - i)⟩]) (by omega) (by simp [hl])
    obtain ⟨r, hr1, hr2⟩ := ih2
    refine ⟨{ t with text := (s.drop i).take (t.e - i) } :: r, by rw [hr1]; simp, ?_⟩
    rw [show gp s.length i = i + 1 by unfold gp; rw [if_neg (by omega)], lexL, brS_get hc]
    simp only [tokW, b1, if_neg (show ¬ l'.length ≥ 4000 by omega)]
    rw [b2, skip_br s (s.length + 1) t.e hp.2.1 (by omega) ((brS s).length + 1) (by rw [brS_len]; omega), hr2]
    simp [sh1]
   ·cases h
theorem lexR_br {s : List Nat} {T : List Tk} {x : Nat} (h : lexR s = (T, x, 0)) (hT : T.length ≤ 3990) : ∃ r, T = r ++ [endTk s] ∧ lexR (brS s) = (⟨4, 0, 1, [40]⟩ :: (r.map sh1 ++ shutT s.length), 0, 0) := by
 obtain ⟨r, h1, h2⟩ := lexL_br s (s.length + 1) _ [] T x (skipF_le s _ _ (Nat.zero_le _)) (by omega) h hT ((brS s).length) [⟨4, 0, 1, [40]⟩] (by rw [brS_len]; omega) rfl
 refine ⟨r, by simpa using h1, ?_⟩
 have hp : ∀ y : Nat, y ≠ 40 → pfxB (brS s) [y, y] = false := by
  intro y hy
  simp [pfxB, brS]
  omega
 have hb : cntF blankB (brS s) = 0 := by rw [brS, cntF, show blankB 40 = false from by decide]
 unfold lexR
 rw [skipF, List.drop_zero, hb, List.drop_zero, hp 47 (by decide)]
 rw [if_neg (by decide), lexL, show (brS s)[0]? = some 40 from rfl]
 have ht : tokF (brS s) 0 40 = (⟨4, 0, 0 + 1, []⟩, 0) := by
  rw [tokF_one (by decide) (by decide) (by decide) (by rw [List.drop_zero, hp 61 (by decide), hp 38 (by decide)]; rfl)]
  rw [show decide (ibV 40 symL < 0) = false from by decide]
 simp only [Nat.add_zero, tokW, ht, List.length_nil, if_neg (show ¬ 0 ≥ 4000 by omega), List.drop_zero]
 rw [skip_br s (s.length + 1) 0 (Nat.zero_le _) (by omega) ((brS s).length + 1) (by rw [brS_len]; omega)]
 have : ([] : List Tk) ++ [⟨4, 0, 0 + 1, (brS s).take (0 + 1 - 0)⟩] = [⟨4, 0, 1, [40]⟩] := rfl
 rw [this, h2]
 simp
end Go.VM
end
section
/- Expressions: brackets about an expression: what is read. -/
set_option maxRecDepth 100000
set_option linter.unusedVariables false
set_option linter.unusedSimpArgs false
namespace Go.VM
open Go.RowKit
theorem nowF_at {l : List Tz} {i : Nat} {t : Tz} (h : l[i]? = some t) : nowF l i = t := by unfold nowF; rw [h]
theorem paren_lift {l : List Tz} (h0 : nowF l 0 = ⟨4, 0, 1, [40]⟩) (M : Nat) (hM : 1 ≤ M) {e : Int} {n : Nat} (hs : nowF l n = ⟨4, e, e + 1, [41]⟩) (hz : nowF l (n + 1) = ⟨0, e + 1, e + 1, []⟩) :
  (∀ x, (fns l M).expr 1 1 1 = .ok x n → (fns l (M + 7)).expr 1 0 0 = .ok x (n + 1)) ∧ (∀ a d p c, (fns l M).expr 1 1 1 = .er a d p c → (fns l (M + 7)).expr 1 0 0 = .er a d p c) := by
 have hpr : ∀ r, (fns l M).expr 1 1 1 = r → (fns l (M + 1)).prim 0 0 = r.bind fun x a1 => (mustF l a1 0 [41]).bind fun _ a2 => .ok x a2 := by
  intro r hr
  show nPrim l (fns l M) 0 0 = _
  unfold nPrim isF
  rw [h0]
  show (withinF l 0 0 ((fns l M).expr 1)).bind _ = _
  unfold withinF
  rw [if_neg (by decide)]
  show ((fns l M).expr 1 1 1).bind _ = _
  rw [hr]
 have hop : ∀ N, (fns l (N + 1)).oper 0 0 = ((fns l N).prim 0 0).bind fun x a1 => (fns l N).post x a1 0 := by
  intro N
  show nOper l (fns l N) 0 0 = _
  unfold nOper isF
  rw [h0]
  rfl
 have hpo : ∀ N x, (fns l (N + 1)).post x (n + 1) 0 = .ok x (n + 1) := by
  intro N x
  show nPost l (fns l N) x (n + 1) 0 = _
  unfold nPost isF
  rw [hz]
  rfl
 have hbi : ∀ N lv x, (fns l (N + 1)).bin lv x (n + 1) 0 = .ok x (n + 1) := by
  intro N lv x
  show nBin l (fns l N) lv x (n + 1) 0 = _
  unfold nBin binB
  rw [hz]
  rfl
 have hex : ∀ N lv, Nat.blt 4 lv = false → (fns l (N + 1)).expr lv 0 0 = ((fns l N).expr (lv + 1) 0 0).bind fun x a1 => (fns l N).bin lv x a1 0 := by
  intro N lv h
  show nExpr (fns l N) lv 0 0 = _
  unfold nExpr
  rw [h]
 obtain ⟨M, rfl⟩ : ∃ m, M = m + 1 := ⟨M - 1, by omega⟩
 have h5 : (fns l (M + 1 + 3)).expr 5 0 0 = (fns l (M + 1 + 2)).oper 0 0 := rfl
 constructor
 ·intro x hx
  have hm : mustF l n 0 [41] = .ok (e + 1) (n + 1) := by
   unfold mustF isF
   rw [hs]
   rfl
  have p := hpr _ hx
  have p : (fns l (M + 1 + 1)).prim 0 0 = .ok x (n + 1) := by
   rw [p]
   show (mustF l n 0 [41]).bind _ = _
   rw [hm]
   rfl
  have o : (fns l (M + 1 + 2)).oper 0 0 = .ok x (n + 1) := by
   rw [hop, p]
   exact hpo _ _
  rw [← h5] at o
  have x4 : (fns l (M + 1 + 4)).expr 4 0 0 = .ok x (n + 1) := by rw [hex _ 4 rfl, o]; exact hbi _ _ _
  have x3 : (fns l (M + 1 + 5)).expr 3 0 0 = .ok x (n + 1) := by rw [hex _ 3 rfl, x4]; exact hbi _ _ _
  have x2 : (fns l (M + 1 + 6)).expr 2 0 0 = .ok x (n + 1) := by rw [hex _ 2 rfl, x3]; exact hbi _ _ _
  rw [hex _ 1 rfl, x2]; exact hbi _ _ _
 ·intro a d p c hx
  have p2 := hpr _ hx
  have p2 : (fns l (M + 1 + 1)).prim 0 0 = .er a d p c := by rw [p2]; rfl
  have o : (fns l (M + 1 + 2)).oper 0 0 = .er a d p c := by rw [hop, p2]; rfl
  rw [← h5] at o
  have x4 : (fns l (M + 1 + 4)).expr 4 0 0 = .er a d p c := by rw [hex _ 4 rfl, o]; rfl
  have x3 : (fns l (M + 1 + 5)).expr 3 0 0 = .er a d p c := by rw [hex _ 3 rfl, x4]; rfl
  have x2 : (fns l (M + 1 + 6)).expr 2 0 0 = .er a d p c := by rw [hex _ 2 rfl, x3]; rfl
  rw [hex _ 1 rfl, x2]; rfl
def brZ (r : List Tz) (N : Nat) : List Tz := ⟨4, 0, 1, [40]⟩ :: (r.map (shZ 1) ++ [⟨4, (N : Int) + 2, (N : Int) + 3, [41]⟩, ⟨0, (N : Int) + 3, (N : Int) + 3, []⟩])
theorem brZ_len (r : List Tz) (N : Nat) : (brZ r N).length = r.length + 3 := by simp [brZ]
theorem brZ_eq (r : List Tk) (N : Nat) : ((⟨4, 0, 1, [40]⟩ : Tk) :: (r.map sh1 ++ shutT N)).map toZ = brZ (r.map toZ) N := by
 simp only [brZ, shutT, List.map_cons, List.map_append, List.map_map, List.map_nil]
 have : (toZ ∘ sh1) = (shZ 1 ∘ toZ) := by funext t; simp [toZ, sh1, shZ]
 rw [this]
 simp [toZ]
theorem br_parse (r : List Tz) (N : Nat) (t : Tz) {M : Nat} (hM : 1 ≤ M) {x : Ex} (h : (fns (r ++ [t]) M).expr 1 0 0 = .ok x r.length) :
  (fns (brZ r N) (M + 7)).expr 1 0 0 = .ok (shX 1 x) (r.length + 2) ∨ ∃ a d p, (fns (brZ r N) (M + 7)).expr 1 0 0 = .er a d p 6 := by
 have g0 : nowF (brZ r N) 0 = ⟨4, 0, 1, [40]⟩ := nowF_at rfl
 have g1 : nowF (brZ r N) (r.length + 1) = ⟨4, (N : Int) + 2, (N : Int) + 2 + 1, [41]⟩ := by
  refine nowF_at ?_
  rw [brZ, List.getElem?_cons_succ, List.getElem?_append_right (by simp)]
  simp
  omega
 have g2 : nowF (brZ r N) (r.length + 1 + 1) = ⟨0, (N : Int) + 2 + 1, (N : Int) + 2 + 1, []⟩ := by
  refine nowF_at ?_
  rw [brZ, List.getElem?_cons_succ, List.getElem?_append_right (by simp)]
  simp
  omega
 have sm : Same r.length 1 1 (r ++ [t]) (brZ r N) := by
  refine ⟨fun i hi => ?_, by rw [g1]; rfl⟩
  have e : (r ++ [t])[i]? = some r[i] := by rw [List.getElem?_append_left hi, List.getElem?_eq_getElem hi]
  rw [nowF_at e]
  refine nowF_at ?_
  rw [brZ, List.getElem?_cons_succ, List.getElem?_append_left (by simpa using hi), List.getElem?_map, List.getElem?_eq_getElem hi]
  rfl
 have pl := paren_lift g0 M hM (n := r.length + 1) g1 g2
 rcases (fns_sim (dd := 1) sm M).expr 1 0 0 (Nat.le_refl _) x r.length h (Nat.le_refl _) with h1 | ⟨_, a, d, p, h1⟩
 ·exact .inl (pl.1 _ h1)
 ·exact .inr ⟨a, d, p, pl.2 _ _ _ _ h1⟩
end Go.VM
end
section
/- Expressions: the law's own comparing of two that are alike, one behind the other. -/
set_option maxRecDepth 100000
set_option linter.unusedVariables false
set_option linter.unusedSimpArgs false
namespace Go.VM
open Go.RowKit
theorem shXs_map (b : Int) : ∀ l : List Ex, shXs b l = l.map (shX b)
 | [] => rfl
 | x :: l => by simp only [shXs, List.map_cons, shXs_map b l]
theorem shX_form (b : Int) (k : Nat) (a e : Int) (nm : List Nat) (nn : Int) (t : Tx) (args : List Ex) : ∃ uk ua up un ul, shX b (.mk k a e nm nn t args) = .mk k (a + b) (e + b) nm nn (.mk uk ua up un ul) (shXs b args) := by
 obtain ⟨tk, ta, tp, tn, tl⟩ := t
 cases h : Nat.beq k 8 with
 | true => exact ⟨tk, ta + b, tp, tn, shTs b tl, by simp only [shX, h, shT]⟩
 | false => exact ⟨tk, ta, tp, tn, tl, by simp only [shX, h]⟩
def mvTm (i : Nat) : TM := [(2, .v (.int .i64 1)), (3, .l 3 0), (4, .l 4 0), (6, .v (.bool false)), (7, .v (.int .i64 i))]
def mvLc (x y : Ex) : LM := [(4, encEx y), (3, encEx x)]
theorem mv_loop {QN : S → Prop} {QX : X → S → Prop} (k : Nat) (a e : Int) (nm : List Nat) (nn : Int) (tk : Nat) (ta : Int) (tp tn : List Nat) (tl : List Tx) (args : List Ex) (uk : Nat) (ua : Int) (up un : List Nat) (ul : List Tx) (hb : args.length < 1000000000000000)
  (ih : ∀ y ∈ args, SCall Go.Proofs.Tryd.prog [] 15 [.agg (encEx y), .agg (encEx (shX 1 y)), .int .i64 1] none ⟨1000, og [], []⟩ (.ret (.bool true)) none ⟨1000, og [], []⟩)
  (h0 : ∀ tm, QX (.exit 0) (SL.toS ⟨tm, [], none, 1000, [], mvLc (.mk k a e nm nn (.mk tk ta tp tn tl) args) (.mk k (a + 1) (e + 1) nm nn (.mk uk ua up un ul) (shXs 1 args))⟩)) : ∀ (m i : Nat), i + m = args.length → ∀ lc, TellL lc (mvLc (.mk k a e nm nn (.mk tk ta tp tn tl) args) (.mk k (a + 1) (e + 1) nm nn (.mk uk ua up un ul) (shXs 1 args))) → ∀ tm, TellT tm (mvLc (.mk k a e nm nn (.mk tk ta tp tn tl) args) (.mk k (a + 1) (e + 1) nm nn (.mk uk ua up un ul) (shXs 1 args))) (mvTm i) →
  WLr Go.Proofs.Tryd.prog [] ⟨Go.Proofs.Tryd.f15.ntmps, none, 15⟩ rc15_L1 (SL.toS ⟨tm, [], none, 1000, [], lc⟩) QN QX := by
 intro m
 induction m with
 | zero =>
  intro i hi lc hlc tm htm
  refine WLr.weak (SW.tellR htm hlc) ?_
  unfold rc15_L1
  refine WLr.of ?_
  repeat (refine WR.seq ?_)
  refine WR.reg (WQ.runS [] 5 _ _ _ _ rfl ?_)
  rw [encExs_map, List.length_map, show decide ((i : Int) < (args.length : Int)) = false from decide_eq_false (by omega)]
  refine WQ.runS [] 1000 _ _ _ _ rfl (WQ.nilS ?_)
  repeat (refine WR.seq ?_)
  rw [← encExs_map]
  exact WR.condF rfl (WR.exit (h0 _))
 | succ m ihm =>
  intro i hi lc hlc tm htm
  obtain ⟨y, hy⟩ : ∃ y, args[i]? = some y := ⟨args[i], List.getElem?_eq_getElem (by omega)⟩
  have sc := ih y (List.mem_of_getElem? hy)
  have hy2 : (shXs 1 args)[i]? = some (shX 1 y) := by rw [shXs_map, List.getElem?_map, hy]; rfl
  obtain ⟨yk, ya, ye, yn, yv, ⟨ytk, yta, ytp, ytn, ytl⟩, ys⟩ := y
  obtain ⟨vk, va, vp, vn, vl, hv⟩ := shX_form 1 yk ya ye yn yv (.mk ytk yta ytp ytn ytl) ys
  rw [hv] at hy2 sc
  refine WLr.weak (SW.tellR htm hlc) ?_
  unfold rc15_L1
  refine WLr.of ?_
  repeat (refine WR.seq ?_)
  refine WR.reg (WQ.runS [] 5 _ _ _ _ rfl ?_)
  rw [encExs_map, List.length_map, show decide ((i : Int) < (args.length : Int)) = true from decide_eq_true (by omega)]
  refine WQ.runS [] 1000 _ _ _ _ rfl (WQ.nilS ?_)
  rw [← encExs_map]
  repeat (refine WR.seq ?_)
  refine WR.condT rfl (WR.skip ?_)
  repeat (refine WR.seq ?_)
  refine WR.block ?_
  repeat (refine WR.seq ?_)
  refine WR.dreg hmix (DW.runS [] 3 _ _ _ _ _ _ rfl ?_)
  refine DW.pureS rfl (fun h => ia_at (cs := encEx (.mk yk ya ye yn yv (.mk ytk yta ytp ytn ytl) ys)) rfl rfl (by rw [encExs_map, List.getElem?_map, hy]; rfl) rfl) rfl ?_
  refine DW.runS [] 4 _ _ _ _ _ _ rfl ?_
  refine DW.pureS rfl (fun h => ia_at (cs := encEx (.mk yk (ya + 1) (ye + 1) yn yv (.mk vk va vp vn vl) (shXs 1 ys))) rfl rfl (by rw [encExs_map, List.getElem?_map, hy2]; rfl) rfl) rfl ?_
  refine DW.runS [] 2 _ _ _ _ _ _ rfl ?_
  refine DW.callH (by repeat (first | exact .nil | refine PendR.passM rfl ?_ | refine PendR.sameM rfl ?_ | refine PendR.lightM rfl ?_)) rfl rfl rfl rfl rfl (SCall.relc sc _) .base rfl ?_
  refine DW.runS [] 1000 _ _ _ _ _ _ rfl (DW.finS (by repeat (first | exact .nil | refine PendR.passM rfl ?_ | refine PendR.sameM rfl ?_ | refine PendR.lightM rfl ?_)) ?_)
  repeat (refine WR.seq ?_)
  refine WR.reg (WQ.runS [] 1000 _ _ _ _ rfl (WQ.nilS ?_))
  repeat (refine WR.seq ?_)
  refine WR.condF rfl (WR.skip ?_)
  unfold rc15_J1
  repeat (refine WR.seq ?_)
  refine WR.reg (WQ.runS [] 2 _ _ _ _ rfl ?_)
  rw [nextB (by unfold big; omega)]
  refine WQ.runS [] 1000 _ _ _ _ rfl (WQ.nilS ?_)
  refine WIr.again (ihm (i + 1) (by omega) _ ?_ _ ?_)
  ·repeat (first | exact .nil | refine .cons rfl (.inl rfl) ?_)
  ·repeat (first | exact .nil | refine .cons rfl (.v (VLe.refl _)) ?_ | refine .cons rfl (.l _ _ rfl) ?_)
theorem mv_sp : ∀ (n : Nat) (x : Ex), SizeOf.sizeOf x < n → lies x → 0 ≤ x.at' → x.en ≤ 200000000000000 → SCall Go.Proofs.Tryd.prog [] 15 [.agg (encEx x), .agg (encEx (shX 1 x)), .int .i64 1] none ⟨1000, og [], []⟩ (.ret (.bool true)) none ⟨1000, og [], []⟩
 | 0, x, h, _, _, _ => by omega
 | n + 1, .mk k a e nm nn (.mk tk ta tp tn tl) args, h, hl, h0, hN => by
  have hl : chain a args e := hl
  have h0 : 0 ≤ a := h0
  have hN : e ≤ 200000000000000 := hN
  have hlen := chain_len hl
  have hge := chain_ge hl
  have ih : ∀ y ∈ args, SCall Go.Proofs.Tryd.prog [] 15 [.agg (encEx y), .agg (encEx (shX 1 y)), .int .i64 1] none ⟨1000, og [], []⟩ (.ret (.bool true)) none ⟨1000, og [], []⟩ := by
   intro y hy
   have hm := chain_mem hl hy
   refine mv_sp n y ?_ hm.1 (by omega) (by omega)
   have := List.sizeOf_lt_of_mem hy
   simp only [Ex.mk.sizeOf_spec] at h
   omega
  obtain ⟨vk, va, vp, vn, vl, hv⟩ := shX_form 1 k a e nm nn (.mk tk ta tp tn tl) args
  rw [hv]
  refine SCall.listed (fn := Go.Proofs.Tryd.f15) (by kernel_rfl) res15 (by kernel_rfl) (by kernel_rfl) (Nat.le_refl _) rfl (trivial) trivial ?_
  unfold rc15
  repeat (refine WR.seq ?_)
  refine WR.reg (WQ.runS [] 1000 _ _ _ _ rfl (WQ.nilS ?_))
  repeat (refine WR.seq ?_)
  refine WR.reg (WQ.runS [] 5 _ _ _ _ rfl ?_)
  rw [show decide ((k : Int) = (k : Int)) = true from decide_eq_true rfl]
  refine WQ.runS [] 5 _ _ _ _ rfl ?_
  rw [wrap64 (by omega) (by omega)]
  refine WQ.runS [] 3 _ _ _ _ rfl ?_
  rw [show decide (a + 1 = a + 1) = true from decide_eq_true rfl]
  refine WQ.runS [] 6 _ _ _ _ rfl ?_
  rw [wrap64 (by omega) (by omega)]
  refine WQ.runS [] 3 _ _ _ _ rfl ?_
  rw [show decide (e + 1 = e + 1) = true from decide_eq_true rfl]
  refine WQ.runS [] 7 _ _ _ _ rfl ?_
  rw [show decide (nm = nm) = true from decide_eq_true rfl]
  refine WQ.runS [] 7 _ _ _ _ rfl ?_
  rw [show decide (nn = nn) = true from decide_eq_true rfl]
  refine WQ.runS [] 9 _ _ _ _ rfl ?_
  rw [encExs_map, encExs_map, shXs_map, List.length_map, List.length_map, List.length_map, show decide ((args.length : Int) = (args.length : Int)) = true from decide_eq_true rfl]
  refine WQ.runS [] 1000 _ _ _ _ rfl (WQ.nilS ?_)
  rw [← shXs_map, ← encExs_map, ← encExs_map]
  repeat (refine WR.seq ?_)
  refine WR.condF rfl (WR.skip ?_)
  repeat (refine WR.seq ?_)
  refine WR.reg (WQ.runS [] 1000 _ _ _ _ rfl (WQ.nilS ?_))
  repeat (refine WR.seq ?_)
  refine WR.block (WR.loop (mv_loop k a e nm nn tk ta tp tn tl args vk va vp vn vl (by omega) ih (fun tm => ?_) args.length 0 (by omega) _ ?_ _ ?_))
  ·unfold rc15_J2
   repeat (refine WR.seq ?_)
   refine WR.reg (WQ.runS [] 1000 _ _ _ _ rfl (WQ.nilS ?_))
   exact WR.ret ⟨rfl, rfl, ⟨_, rfl, VLe.refl _⟩, fun _ _ => rfl⟩
  ·repeat (first | exact .nil | refine .cons rfl (.inl rfl) ?_)
  ·repeat (first | exact .nil | refine .cons rfl (.v (VLe.refl _)) ?_ | refine .cons rfl (.l _ _ rfl) ?_)
end Go.VM
end
section
/- Expressions of a text: the law ExprxBrackets, walked. -/
set_option maxRecDepth 100000
set_option linter.unusedVariables false
set_option linter.unusedSimpArgs false
namespace Go.VM
open Go.RowKit
theorem brS_b {s : List Nat} (h8 : ∀ c ∈ s, c < 256) : ∀ c ∈ brS s, c < 256 := by
 intro c hc
 simp only [brS, List.mem_cons, List.mem_append, List.not_mem_nil, or_false] at hc
 rcases hc with rfl | h | rfl | rfl
 ·decide
 ·exact h8 c h
 ·decide
 ·decide
theorem br_core (s : List Nat) (h8 : ∀ c ∈ s, c < 256) (hN : s.length ≤ 200000000000000) (aw : SCall Go.Proofs.Tryd.prog [0] 11 [] none ⟨1000, og tOl, []⟩ (.ret (.bool true)) none ⟨1000, og tOl, []⟩) :
  SCall Go.Proofs.Tryd.prog [0] 5 [.str s] none ⟨1000, og tOl, []⟩ (.ret (.bool true)) none ⟨1000, og tOl, []⟩ := by
 have hb : s.length < big := by unfold big; omega
 have al := all_at s h8 hb
 have al2 := all_at (brS s) (brS_b h8) (by rw [brS_len]; unfold big; omega)
 unfold allV at al al2
 have goodR : (lexR s).2.2 = 0 → GoodT s.length ((lexR s).1.map toZ) ∧ (lexR s).1.length ≤ 4001 := by
  intro h0
  have e : lexR s = ((lexR s).1, (lexR s).2.1, 0) := by rw [← h0]
  exact ⟨lexR_good e, lexL_len s _ _ [] _ _ (by simp) e⟩
 have brR : (lexR s).2.2 = 0 → (lexR s).1.length ≤ 3990 → ∃ r, (lexR s).1 = r ++ [endTk s] ∧ lexR (brS s) = (⟨4, 0, 1, [40]⟩ :: (r.map sh1 ++ shutT s.length), 0, 0) := by
  intro h0 h1
  have e : lexR s = ((lexR s).1, (lexR s).2.1, 0) := by rw [← h0]
  exact lexR_br e h1
 generalize (lexR s).1 = T at al goodR brR
 generalize (lexR s).2.1 = w1 at al
 generalize (lexR s).2.2 = w2 at al goodR brR
 refine SCall.listed (fn := Go.Proofs.Tryd.f5) (by kernel_rfl) res5 (by kernel_rfl) (by kernel_rfl) (Nat.le_refl _) rfl ((by exact ⟨tabS_in, trivial⟩)) trivial ?_
 unfold rc5
 repeat (refine WR.seq ?_)
 refine WR.reg (WQ.runS [] 1000 _ _ _ _ rfl (WQ.nilS ?_))
 repeat (refine WR.seq ?_)
 refine WR.reg (WQ.callH rfl rfl rfl rfl rfl aw .base rfl ?_)
 refine WQ.runS [] 1000 _ _ _ _ rfl (WQ.nilS ?_)
 repeat (refine WR.seq ?_)
 refine WR.reg (WQ.runS [] 1 _ _ _ _ rfl ?_)
 refine WQ.callH rfl rfl rfl rfl rfl (SCall.relc al _) .base rfl ?_
 cases w2 with
 | succ k =>
  refine WQ.runS [] 1000 _ _ _ _ rfl (WQ.nilS ?_)
  repeat (refine WR.seq ?_)
  refine WR.reg (WQ.runS [] 2 _ _ _ _ rfl ?_)
  refine WQ.runS [] 1 _ _ _ _ rfl ?_
  rw [show decide (((k + 1 : Nat) : Int) = 0) = false from decide_eq_false (by omega)]
  refine WQ.runS [] 1000 _ _ _ _ rfl (WQ.nilS ?_)
  repeat (refine WR.seq ?_)
  refine WR.condT rfl ?_
  repeat (refine WR.seq ?_)
  refine WR.reg (WQ.runS [] 1000 _ _ _ _ rfl (WQ.nilS ?_))
  exact WR.ret ⟨rfl, rfl, ⟨_, rfl, VLe.refl _⟩, fun _ _ => rfl⟩
 | zero =>
  obtain ⟨g, hlen⟩ := goodR rfl
  have brR := brR rfl
  have e1 : (V.lst (List.map encTk T) .unk) = lsV (T.map toZ) := by unfold lsV; rw [encTks_Z]
  have hTl : (T.map toZ).length = T.length := List.length_map ..
  rw [e1]
  refine WQ.runS [] 1000 _ _ _ _ rfl (WQ.nilS ?_)
  repeat (refine WR.seq ?_)
  refine WR.reg (WQ.runS [] 7 _ _ _ _ rfl ?_)
  rw [List.length_map, List.length_map]
  by_cases h3 : T.length > 3990
  ·rw [show decide ((T.length : Int) > 3990) = true from decide_eq_true (by omega)]
   refine WQ.runS [] 1000 _ _ _ _ rfl (WQ.nilS ?_)
   repeat (refine WR.seq ?_)
   refine WR.condT rfl ?_
   repeat (refine WR.seq ?_)
   refine WR.reg (WQ.runS [] 1000 _ _ _ _ rfl (WQ.nilS ?_))
   exact WR.ret ⟨rfl, rfl, ⟨_, rfl, VLe.refl _⟩, fun _ _ => rfl⟩
  rw [show decide ((T.length : Int) > 3990) = false from decide_eq_false (by omega)]
  refine WQ.runS [] 1000 _ _ _ _ rfl (WQ.nilS ?_)
  repeat (refine WR.seq ?_)
  refine WR.condF rfl (WR.skip ?_)
  obtain ⟨r, hr0, hbr⟩ := brR (by omega)
  rw [hbr] at al2
  obtain ⟨n, rr, hr, hev⟩ := expr_ends (T.map toZ) 0 1 0 (Nat.zero_le _)
  have hev := hev (n + 1) (by omega)
  have pa := parse_at (T.map toZ) (by omega) (toZ_text g hb) 0 (n + 1) (Nat.zero_le _) (by rw [hev]; exact hr)
  have li := (fns_lie g (n + 1)).expr 1 0 0
  have hbp := fun x h => br_parse (r.map toZ) s.length (toZ (endTk s)) (M := n + 1) (by omega) (x := x) h
  have eT : T.map toZ = r.map toZ ++ [toZ (endTk s)] := by rw [hr0]; simp
  rw [← eT] at hbp
  rw [hev] at pa li hbp
  have rl : T.length = r.length + 1 := by rw [hr0]; simp
  repeat (refine WR.seq ?_)
  refine WR.reg (WQ.runS [] 1 _ _ _ _ rfl ?_)
  refine WQ.callH rfl rfl rfl rfl rfl (pa _) .base rfl ?_
  cases rr with
  | out => cases hr
  | er a1 d1 p c =>
   have er := (fns_err g (n + 1)).expr 1 0 0
   rw [hev] at er
   obtain ⟨_, _, hc⟩ := er _ _ _ _ rfl
   refine WQ.runS [] 1000 _ _ _ _ rfl (WQ.nilS ?_)
   repeat (refine WR.seq ?_)
   refine WR.reg (WQ.runS [] 2 _ _ _ _ rfl ?_)
   refine WQ.runS [] 1 _ _ _ _ rfl ?_
   rw [show decide (c = 0) = false from decide_eq_false hc]
   refine WQ.runS [] 1000 _ _ _ _ rfl (WQ.nilS ?_)
   repeat (refine WR.seq ?_)
   refine WR.condT rfl ?_
   repeat (refine WR.seq ?_)
   refine WR.reg (WQ.runS [] 1000 _ _ _ _ rfl (WQ.nilS ?_))
   exact WR.ret ⟨rfl, rfl, ⟨_, rfl, VLe.refl _⟩, fun _ _ => rfl⟩
  | ok x j =>
   have sp := li _ _ rfl
   have h1 := sp.lt; have h2 := sp.len; have h4 := sp.lo; have h5 := sp.hi
   have r0 := g.range 0
   have t1 := now_of (l := T.map toZ) (i := j - 1) (by omega)
   have rk := (g.tok (j - 1) _ t1 (by omega)).2.2.1
   have sm := mv_sp (SizeOf.sizeOf x + 1) x (Nat.lt_succ_self _) sp.lies (by omega) (by omega)
   obtain ⟨xk, xa, xe, xn, xv, ⟨xtk, xta, xtp, xtn, xtl⟩, xs⟩ := x
   refine WQ.runS [] 1000 _ _ _ _ rfl (WQ.nilS ?_)
   repeat (refine WR.seq ?_)
   refine WR.reg (WQ.runS [] 8 _ _ _ _ rfl ?_)
   rw [List.length_map, List.length_map, subB1 (by omega) (by unfold big; omega)]
   refine WQ.runS [] 1 _ _ _ _ rfl ?_
   by_cases hj : j = T.length - 1
   rotate_left
   ·rw [show decide ((j : Int) = ((T.length - 1 : Nat) : Int)) = false from decide_eq_false (by omega)]
    refine WQ.runS [] 1000 _ _ _ _ rfl (WQ.nilS ?_)
    repeat (refine WR.seq ?_)
    refine WR.condT rfl ?_
    repeat (refine WR.seq ?_)
    refine WR.reg (WQ.runS [] 1000 _ _ _ _ rfl (WQ.nilS ?_))
    exact WR.ret ⟨rfl, rfl, ⟨_, rfl, VLe.refl _⟩, fun _ _ => rfl⟩
   rw [show decide ((j : Int) = ((T.length - 1 : Nat) : Int)) = true from decide_eq_true (by omega)]
   refine WQ.runS [] 1000 _ _ _ _ rfl (WQ.nilS ?_)
   repeat (refine WR.seq ?_)
   refine WR.condF rfl (WR.skip ?_)
   have hbp := hbp _ (by rw [List.length_map, show r.length = j by omega])
   rw [List.length_map, show r.length = j by omega] at hbp
   have eB : (V.lst (List.map encTk (⟨4, 0, 1, [40]⟩ :: (r.map sh1 ++ shutT s.length))) .unk) = lsV (brZ (r.map toZ) s.length) := by unfold lsV; rw [encTks_Z, brZ_eq]
   have lB : (brZ (r.map toZ) s.length).length < 19999 := by rw [brZ_len, List.length_map]; omega
   have gB := lexR_good hbr
   have tB : ∀ t ∈ brZ (r.map toZ) s.length, t.t.length < big := by
    rw [← brZ_eq]
    exact toZ_text gB (by rw [brS_len]; unfold big; omega)
   have pb := parse_at (brZ (r.map toZ) s.length) lB tB 0 (n + 1 + 7) (Nat.zero_le _)
   repeat (refine WR.seq ?_)
   refine WR.reg (WQ.runS [] 1 _ _ _ _ rfl ?_)
   have al2 : SCall Go.Proofs.Tryd.prog [0] 12 [.str (brS s)] none ⟨1000, og tOl, []⟩ (.ret (.tup [lsV (brZ (r.map toZ) s.length), .agg (dg 0 0)])) none ⟨1000, og tOl, []⟩ := by rw [← eB]; exact al2
   refine WQ.lightS rfl rfl rfl (add_strW rfl rfl (by simp; unfold slim; omega) _) rfl ?_
   refine WQ.lightS rfl rfl rfl (add_strW rfl rfl (by simp; unfold slim; omega) _) rfl ?_
   refine WQ.callH rfl rfl rfl rfl rfl (SCall.relc al2 _) .base rfl ?_
   generalize brZ (r.map toZ) s.length = B at pb hbp
   refine WQ.runS [] 1000 _ _ _ _ rfl (WQ.nilS ?_)
   repeat (refine WR.seq ?_)
   refine WR.reg (WQ.runS [] 1000 _ _ _ _ rfl (WQ.nilS ?_))
   repeat (refine WR.seq ?_)
   refine WR.condF rfl (WR.skip ?_)
   repeat (refine WR.seq ?_)
   refine WR.reg (WQ.runS [] 1 _ _ _ _ rfl ?_)
   rcases hbp with hbp | ⟨a1, d1, p1, hbp⟩
   ·rw [hbp] at pb
    obtain ⟨vk, va, vp, vn, vl, hv⟩ := shX_form 1 xk xa xe xn xv (.mk xtk xta xtp xtn xtl) xs
    rw [hv] at pb sm
    refine WQ.callH rfl rfl rfl rfl rfl (pb rfl _) .base rfl ?_
    refine WQ.runS [] 1000 _ _ _ _ rfl (WQ.nilS ?_)
    repeat (refine WR.seq ?_)
    refine WR.reg (WQ.runS [] 1000 _ _ _ _ rfl (WQ.nilS ?_))
    repeat (refine WR.seq ?_)
    refine WR.condF rfl (WR.skip ?_)
    repeat (refine WR.seq ?_)
    refine WR.reg (WQ.runS [] 3 _ _ _ _ rfl ?_)
    refine WQ.callH rfl rfl rfl rfl rfl (SCall.more (SCall.pure0 rfl sm (by exact ⟨encEx_in _, encEx_in _, trivial, trivial⟩) trivial _)) .base rfl ?_
    refine WQ.runS [] 1000 _ _ _ _ rfl (WQ.nilS ?_)
    repeat (refine WR.seq ?_)
    refine WR.reg (WQ.runS [] 8 _ _ _ _ rfl ?_)
    rw [wrap64 (by omega) (by omega)]
    refine WQ.runS [] 1 _ _ _ _ rfl ?_
    rw [show decide (((j + 2 : Nat) : Int) = (j : Int) + 2) = true from decide_eq_true (by omega)]
    refine WQ.runS [] 1000 _ _ _ _ rfl (WQ.nilS ?_)
    exact WR.ret ⟨rfl, rfl, ⟨_, rfl, VLe.refl _⟩, fun _ _ => rfl⟩
   ·rw [hbp] at pb
    refine WQ.callH rfl rfl rfl rfl rfl (pb rfl _) .base rfl ?_
    refine WQ.runS [] 1000 _ _ _ _ rfl (WQ.nilS ?_)
    repeat (refine WR.seq ?_)
    refine WR.reg (WQ.runS [] 1000 _ _ _ _ rfl (WQ.nilS ?_))
    repeat (refine WR.seq ?_)
    refine WR.condT rfl ?_
    repeat (refine WR.seq ?_)
    refine WR.reg (WQ.runS [] 1000 _ _ _ _ rfl (WQ.nilS ?_))
    exact WR.ret ⟨rfl, rfl, ⟨_, rfl, VLe.refl _⟩, fun _ _ => rfl⟩
theorem br_spec (s : List Nat) (h8 : ∀ c ∈ s, c < 256) (hN : s.length ≤ 200000000000000) : SCall Go.Proofs.Tryd.prog [0] 5 [.str s] none (hT 0 .u8 spaces) (.ret (.bool true)) none (hT 0 .u8 spaces) := br_core s h8 hN awake_sp
end Go.VM
end
