/- The machine of values: its values, its memory, and how they stand to the model's. -/
import Derived.Test.YtdmpeinbbcjamaaVmBase
set_option linter.unusedVariables false
set_option linter.unusedSimpArgs false
namespace Go.VM
open Go.RowKit

/-! ### values -/
/-- what is known of a list's capacity: just so many; nothing; nothing, but that it may be appended to (by what stands at an id); it is nil; it is not nil. -/
inductive LC where
  | ex (c : Nat)
  | unk
  | tk (id : Nat)
  | nl
  | nn
  deriving Inhabited

inductive V where
  | bool (b : Bool)
  | int (k : IntKind) (n : Int)
  | str (s : List Nat)
  | nilp
  | ptr (b o : Nat)
  | lst (es : List (List V)) (c : LC)
  | sl (b o len : Nat) (cap : Cp)
  | nilm
  | map (r : Nat)
  | fn (f : Fn) (first cap : List V)
  | nilf
  | iface (t : Nat) (v : V)
  | nili
  | agg (l : List V)
  | tup (l : List V)
  deriving Inhabited

def V.cells : V → List V
  | .agg l => l
  | v => [v]

def V.isCell : V → Bool
  | .agg _ | .tup _ => false
  | _ => true

def undefV : V := .tup []

def V.clean1 : V → V
  | .lst es _ => .lst es .unk
  | v => v

def V.clean : V → V
  | .lst es _ => .lst es .unk
  | .agg l => .agg (l.map V.clean1)
  | v => v

/-- what a slot holds: a value; the address of a variable of the frame; the address of cells that never change. -/
inductive TV where
  | v (x : V)
  | l (d o : Nat)
  | e (cs : List V)
  deriving Inhabited

abbrev TM := List (Nat × TV)

def tg : TM → Nat → Option TV
  | [], _ => none
  | (k, v) :: r, n => match Nat.beq k n with
    | true => some v
    | false => tg r n

def tdel (tm : TM) (d : Nat) : TM := tm.filter fun e => !Nat.beq e.1 d

/-- no slot points to a variable any more. -/
def tpurge (tm : TM) (d : Nat) : TM := tm.filter fun e => match e.2 with | .l x _ => !Nat.beq x d | _ => true

abbrev LM := List (Nat × List V)

def lg : LM → Nat → Option (List V)
  | [], _ => none
  | (k, v) :: r, n => match Nat.beq k n with
    | true => some v
    | false => lg r n

structure ADef where
  fn : Fn
  cap : List V
  args : List V

inductive AD where
  | call (d : ADef)
  | collected (r : Nat)

structure ALoop where
  state : LoopState
  pending : Option Code
  fn : FuncId
  blk : Bool
  tmps : TM
  nt : Nat
  params : List Tmp
  assign : Code
  body : Code

inductive Obj where
  | cells (opn : Bool) (cs : List V)
  | map (es : List (V × V))
  | loop (l : ALoop)
  | dfr (calls : Option (List AD))
  | siter (s : List Nat) (pos : Nat)
  | tok (n : Nat)

structure H where
  nxt : Nat
  ob : Nat → Option Obj
  lc : LM

def H.put (h : H) (b : Nat) (o : Obj) : H := { h with ob := fun k => if k = b then some o else h.ob k }
def H.kill (h : H) (b : Nat) : H := { h with ob := fun k => if k = b then none else h.ob k }
def H.new (h : H) (o : Obj) : H := { h with nxt := h.nxt + 1, ob := fun k => if k = h.nxt then some o else h.ob k }

/-! ### the relation -/
structure Env where
  ob : Nat → Option Place
  fz : Nat → Nat → Option Value
  tk : Nat → Nat → Option Place

structure Env.le (E E' : Env) : Prop where
  ob : ∀ b p, E.ob b = some p → E'.ob b = some p
  fz : ∀ B i v, E.fz B i = some v → E'.fz B i = some v
  tk : ∀ b n p, E.tk b n = some p → E'.tk b n = some p

theorem Env.le_refl (E : Env) : E.le E := ⟨fun _ _ h => h, fun _ _ _ h => h, fun _ _ _ h => h⟩
theorem Env.le.trans {E E' E'' : Env} (h : E.le E') (k : E'.le E'') : E.le E'' := ⟨fun b p hb => k.ob b p (h.ob b p hb), fun b i v hb => k.fz b i v (h.fz b i v hb), fun b n p hb => k.tk b n p (h.tk b n p hb)⟩

def LC0 : LC → Option Addr → Nat → Prop
  | .ex k, _, cap => cap = k
  | .unk, _, _ => True
  | .tk _, _, cap => cap = 0
  | .nl, a, _ => a = none
  | .nn, a, _ => a.isSome = true

def CapR (E : Env) (c : LC) (blk off z n cap : Nat) : Prop :=
  match c with
  | .ex k => cap = k
  | .unk => True
  | .tk id => E.tk id n = some ⟨blk, off + n * z, (cap - n) * z⟩
  | .nl => False
  | .nn => True

theorem CapR.mono {E E' : Env} (h : E.le E') {c : LC} {blk off z n cap : Nat} (r : CapR E c blk off z n cap) : CapR E' c blk off z n cap := by
  cases c with
  | ex k => exact r
  | tk id => exact h.tk _ _ _ r
  | _ => exact r

mutual
inductive AR (E : Env) : V → Value → Prop where
  | bool (b : Bool) : AR E (.bool b) (.bool b)
  | int (k : IntKind) (n : Int) : AR E (.int k n) (.int k n)
  | str (s : List Nat) (x : ByteArray) (h : x.data.toList.map UInt8.toNat = s) : AR E (.str s) (.string x)
  | nilp : AR E .nilp (.pointer none)
  | ptr (b o : Nat) (p : Place) (h : E.ob b = some p) : AR E (.ptr b o) (.pointer (some ⟨p.blk, p.off + o, none⟩))
  | lst0 (c : LC) (a : Option Addr) (cap : Nat) (h : LC0 c a cap) : AR E (.lst [] c) (.slice a 0 cap)
  | lst (e : List V) (es : List (List V)) (c : LC) (blk off n cap z : Nat) (h : FZs E blk off z (e :: es)) (hn : n = es.length + 1) (hc : n ≤ cap) (hr : CapR E c blk off z n cap) : AR E (.lst (e :: es) c) (.slice (some ⟨blk, off, none⟩) n cap)
  | sl (b o n : Nat) (p : Place) (c : Nat) (h : E.ob b = some p) (hn : n ≤ c) : AR E (.sl b o n (.ex c)) (.slice (some ⟨p.blk, p.off + o, none⟩) n c)
  | slo (b o n z : Nat) (p : Place) (c : Nat) (h : E.ob b = some p) (hc : o + c * z = p.ext) (hn : n ≤ c) : AR E (.sl b o n (.op z)) (.slice (some ⟨p.blk, p.off + o, none⟩) n c)
  | sl0 (b o : Nat) (c : Cp) (a : Addr) (hc : ∀ k, c = .ex k → k = 0) (p : Place) (h : E.ob b = some p) (hz : ∀ z, c = .op z → p.ext ≤ o) : AR E (.sl b o 0 c) (.slice (some a) 0 0)
  | nilm : AR E .nilm (.map none)
  | map (r : Nat) (p : Place) (h : E.ob r = some p) : AR E (.map r) (.map (some p.blk))
  | fn (f : FuncId) (a c : List V) (a' c' : Array Value) (ha : ARs E a a'.toList) (hc : ARs E c c'.toList) : AR E (.fn (.func f) a c) (.func (.func f) a' c')
  | yld (l : Nat) (p : Place) (h : E.ob l = some p) : AR E (.fn (.yield l) [] []) (.func (.yield p.blk) #[] #[])
  | nilf : AR E .nilf .nilFunc
  | iface (t : Nat) (v : V) (v' : Value) (h : AR E v v') : AR E (.iface t v) (.iface t v')
  | nili : AR E .nili .nilIface
  | agg (l : List V) (cs : Array Value) (h : ARs E l cs.toList) : AR E (.agg l) (.agg cs)
  | tup (l : List V) (cs : Array Value) (h : ARs E l cs.toList) : AR E (.tup l) (.tuple cs)
inductive ARs (E : Env) : List V → List Value → Prop where
  | nil : ARs E [] []
  | cons (v : V) (v' : Value) (l : List V) (l' : List Value) (h : AR E v v') (t : ARs E l l') : ARs E (v :: l) (v' :: l')
/-- cells that never change, from a place on. -/
inductive FZ (E : Env) : Nat → Nat → List V → Prop where
  | nil (blk off : Nat) : FZ E blk off []
  | cons (blk off : Nat) (v : V) (v' : Value) (l : List V) (hf : E.fz blk off = some v') (hc : v.isCell = true) (h : AR E v v') (t : FZ E blk (off + 1) l) : FZ E blk off (v :: l)
/-- elements of so many cells, one behind the other. -/
inductive FZs (E : Env) : Nat → Nat → Nat → List (List V) → Prop where
  | nil (blk off z : Nat) : FZs E blk off z []
  | cons (blk off z : Nat) (e : List V) (es : List (List V)) (hz : e.length = z) (h : FZ E blk off e) (t : FZs E blk (off + z) z es) : FZs E blk off z (e :: es)
end

mutual
theorem AR.mono {E E' : Env} (h : E.le E') : ∀ {v : V} {v' : Value}, AR E v v' → AR E' v v'
  | _, _, .bool b => .bool b
  | _, _, .int k n => .int k n
  | _, _, .str s x e => .str s x e
  | _, _, .nilp => .nilp
  | _, _, .ptr b o p e => .ptr b o p (h.ob _ _ e)
  | _, _, .lst0 c a cap e => .lst0 c a cap e
  | _, _, .lst e es c blk off n cap z r hn hc hr => .lst e es c blk off n cap z (FZs.mono h r) hn hc (hr.mono h)
  | _, _, .sl b o n p c e hn => .sl b o n p c (h.ob _ _ e) hn
  | _, _, .slo b o n z p c e hc hn => .slo b o n z p c (h.ob _ _ e) hc hn
  | _, _, .sl0 b o c a hc p e hz => .sl0 b o c a hc p (h.ob _ _ e) hz
  | _, _, .nilm => .nilm
  | _, _, .map r p e => .map r p (h.ob _ _ e)
  | _, _, .fn f a c a' c' ha hc => .fn f a c a' c' (ARs.mono h ha) (ARs.mono h hc)
  | _, _, .yld l p e => .yld l p (h.ob _ _ e)
  | _, _, .nilf => .nilf
  | _, _, .iface t v v' e => .iface t v v' (AR.mono h e)
  | _, _, .nili => .nili
  | _, _, .agg l cs e => .agg l cs (ARs.mono h e)
  | _, _, .tup l cs e => .tup l cs (ARs.mono h e)
theorem ARs.mono {E E' : Env} (h : E.le E') : ∀ {l : List V} {l' : List Value}, ARs E l l' → ARs E' l l'
  | _, _, .nil => .nil
  | _, _, .cons v v' l l' e t => .cons v v' l l' (AR.mono h e) (ARs.mono h t)
theorem FZ.mono {E E' : Env} (h : E.le E') : ∀ {blk off : Nat} {l : List V}, FZ E blk off l → FZ E' blk off l
  | _, _, _, .nil _ _ => .nil _ _
  | _, _, _, .cons blk off v v' l hf hc hr t => .cons blk off v v' l (h.fz _ _ _ hf) hc (AR.mono h hr) (FZ.mono h t)
theorem FZs.mono {E E' : Env} (h : E.le E') : ∀ {blk off z : Nat} {l : List (List V)}, FZs E blk off z l → FZs E' blk off z l
  | _, _, _, _, .nil _ _ _ => .nil _ _ _
  | _, _, _, _, .cons blk off z e es hz hr t => .cons blk off z e es hz (FZ.mono h hr) (FZs.mono h t)
end

theorem ARs.length {E : Env} : ∀ {l : List V} {l' : List Value}, ARs E l l' → l.length = l'.length
  | _, _, .nil => rfl
  | _, _, .cons v v' l l' e t => by simp [ARs.length t]

theorem ARs.get {E : Env} : ∀ {l : List V} {l' : List Value}, ARs E l l' → ∀ (i : Nat) (v : V), l[i]? = some v → ∃ v', l'[i]? = some v' ∧ AR E v v'
  | _, _, .nil, i, v, h => by simp at h
  | _, _, .cons a a' l l' e t, 0, v, h => by simp at h; subst h; exact ⟨a', rfl, e⟩
  | _, _, .cons a a' l l' e t, i + 1, v, h => by simpa using ARs.get t i v (by simpa using h)

theorem ARs.append {E : Env} : ∀ {l m : List V} {l' m' : List Value}, ARs E l l' → ARs E m m' → ARs E (l ++ m) (l' ++ m')
  | _, _, _, _, .nil, h => h
  | _, _, _, _, .cons v v' l l' e t, h => .cons v v' _ _ e (ARs.append t h)

theorem ARs.take {E : Env} : ∀ (n : Nat) {l : List V} {l' : List Value}, ARs E l l' → ARs E (l.take n) (l'.take n)
  | 0, _, _, _ => by simpa using .nil
  | n + 1, _, _, .nil => .nil
  | n + 1, _, _, .cons v v' l l' e t => .cons v v' _ _ e (ARs.take n t)

theorem ARs.drop {E : Env} : ∀ (n : Nat) {l : List V} {l' : List Value}, ARs E l l' → ARs E (l.drop n) (l'.drop n)
  | 0, _, _, h => h
  | n + 1, _, _, .nil => .nil
  | n + 1, _, _, .cons v v' l l' e t => ARs.drop n t

theorem ARs.of_get {E : Env} : ∀ {l : List V} {l' : List Value}, l.length = l'.length → (∀ (i : Nat) (v : V), l[i]? = some v → ∃ v', l'[i]? = some v' ∧ AR E v v') → ARs E l l'
  | [], [], _, _ => .nil
  | v :: l, v' :: l', h, g => by
    obtain ⟨u, hu, hr⟩ := g 0 v rfl
    simp at hu; subst hu
    exact .cons v v' l l' hr (ARs.of_get (by simpa using h) fun i x hx => by simpa using g (i + 1) x (by simpa using hx))

theorem AR.isCell {E : Env} {v : V} {v' : Value} (h : AR E v v') (hc : v.isCell = true) : (∀ l, v' ≠ .agg l) ∧ ∀ l, v' ≠ .tuple l := by
  cases h <;> simp [V.isCell] at hc <;> exact ⟨(fun _ e => by cases e), (fun _ e => by cases e)⟩

theorem AR.oneCell {E : Env} {v : V} {v' : Value} (h : AR E v v') (hc : v.isCell = true) : v'.oneCell' = true := by
  obtain ⟨n1, n2⟩ := h.isCell hc
  cases v' <;> first | rfl | exact absurd rfl (n1 _) | exact absurd rfl (n2 _)

theorem AR.cells {E : Env} {v : V} {v' : Value} (h : AR E v v') : ARs E v.cells v'.cells.toList := by
  cases h with
  | agg l cs h => exact h
  | _ => exact .cons _ _ _ _ (by constructor <;> assumption) .nil

/-- what is known of a capacity is forgotten. -/
theorem AR.clean1 {E : Env} {v : V} {v' : Value} (h : AR E v v') : AR E v.clean1 v' := by
  cases h with
  | lst0 c a cap e => exact .lst0 .unk a cap trivial
  | lst e es c blk off n cap z r hn hc hr => exact .lst e es .unk blk off n cap z r hn hc trivial
  | _ => constructor <;> assumption

theorem ARs.clean1 {E : Env} : ∀ {l : List V} {l' : List Value}, ARs E l l' → ARs E (l.map V.clean1) l'
  | _, _, .nil => .nil
  | _, _, .cons v v' l l' e t => .cons _ _ _ _ e.clean1 (ARs.clean1 t)

theorem AR.clean {E : Env} {v : V} {v' : Value} (h : AR E v v') : AR E v.clean v' := by
  cases h with
  | lst0 c a cap e => exact .lst0 .unk a cap trivial
  | lst e es c blk off n cap z r hn hc hr => exact .lst e es .unk blk off n cap z r hn hc trivial
  | agg l cs h => exact .agg _ _ h.clean1
  | _ => constructor <;> assumption

theorem clean1_isCell (v : V) : v.clean1.isCell = v.isCell := by cases v <;> rfl

/-! ### cells that never change -/
theorem FZ.get {E : Env} : ∀ {blk off : Nat} {l : List V}, FZ E blk off l → ∀ (i : Nat) (v : V), l[i]? = some v → v.isCell = true ∧ ∃ v', E.fz blk (off + i) = some v' ∧ AR E v v'
  | _, _, _, .nil _ _, i, v, h => by simp at h
  | _, _, _, .cons blk off v v' l hf hc hr t, 0, u, h => by simp at h; subst h; exact ⟨hc, v', hf, hr⟩
  | _, _, _, .cons blk off v v' l hf hc hr t, i + 1, u, h => by
    have := FZ.get t i u (by simpa using h)
    rwa [show off + 1 + i = off + (i + 1) by omega] at this

theorem FZ.of_get {E : Env} {blk : Nat} : ∀ {off : Nat} {l : List V}, (∀ (i : Nat) (v : V), l[i]? = some v → v.isCell = true ∧ ∃ v', E.fz blk (off + i) = some v' ∧ AR E v v') → FZ E blk off l
  | off, [], _ => .nil _ _
  | off, v :: l, h => by
    obtain ⟨a, v', b, c⟩ := h 0 v rfl
    refine .cons blk off v v' l b a c (FZ.of_get fun i u hu => ?_)
    have := h (i + 1) u (by simpa using hu)
    rwa [show off + (i + 1) = off + 1 + i by omega] at this

theorem FZ.drop {E : Env} {blk off : Nat} {l : List V} (h : FZ E blk off l) (n : Nat) : FZ E blk (off + n) (l.drop n) :=
  FZ.of_get fun i v hv => by
    rw [List.getElem?_drop] at hv
    rw [Nat.add_assoc]; exact h.get _ _ hv

theorem FZ.take {E : Env} {blk off : Nat} {l : List V} (h : FZ E blk off l) (n : Nat) : FZ E blk off (l.take n) :=
  FZ.of_get fun i v hv => by
    rw [List.getElem?_take] at hv
    split at hv
    · exact h.get _ _ hv
    · cases hv

theorem FZ.append {E : Env} {blk off : Nat} {l m : List V} (h : FZ E blk off l) (k : FZ E blk (off + l.length) m) : FZ E blk off (l ++ m) :=
  FZ.of_get fun i v hv => by
    by_cases hi : i < l.length
    · rw [List.getElem?_append_left hi] at hv; exact h.get _ _ hv
    · rw [List.getElem?_append_right (by omega)] at hv
      have := k.get _ _ hv
      rwa [show off + l.length + (i - l.length) = off + i by omega] at this

theorem FZs.get {E : Env} : ∀ {blk off z : Nat} {es : List (List V)}, FZs E blk off z es → ∀ (i : Nat) (e : List V), es[i]? = some e → e.length = z ∧ FZ E blk (off + i * z) e
  | _, _, _, _, .nil _ _ _, i, e, h => by simp at h
  | _, _, _, _, .cons blk off z e es hz hr t, 0, u, h => by simp at h; subst h; exact ⟨hz, by simpa using hr⟩
  | _, _, _, _, .cons blk off z e es hz hr t, i + 1, u, h => by
    have := FZs.get t i u (by simpa using h)
    rwa [show off + z + i * z = off + (i + 1) * z by rw [Nat.add_mul]; omega] at this

theorem FZs.of_get {E : Env} {blk z : Nat} : ∀ {off : Nat} {es : List (List V)}, (∀ (i : Nat) (e : List V), es[i]? = some e → e.length = z ∧ FZ E blk (off + i * z) e) → FZs E blk off z es
  | off, [], _ => .nil _ _ _
  | off, e :: es, h => by
    obtain ⟨a, b⟩ := h 0 e rfl
    refine .cons blk off z e es a (by simpa using b) (FZs.of_get fun i u hu => ?_)
    have := h (i + 1) u (by simpa using hu)
    rwa [show off + (i + 1) * z = off + z + i * z by rw [Nat.add_mul]; omega] at this

theorem FZs.drop {E : Env} {blk off z : Nat} {es : List (List V)} (h : FZs E blk off z es) (n : Nat) : FZs E blk (off + n * z) z (es.drop n) :=
  FZs.of_get fun i e he => by
    rw [List.getElem?_drop] at he
    rw [Nat.add_assoc, ← Nat.add_mul]; exact h.get _ _ he

theorem FZs.take {E : Env} {blk off z : Nat} {es : List (List V)} (h : FZs E blk off z es) (n : Nat) : FZs E blk off z (es.take n) :=
  FZs.of_get fun i e he => by
    rw [List.getElem?_take] at he
    split at he
    · exact h.get _ _ he
    · cases he

theorem FZs.append {E : Env} {blk off z : Nat} {es fs : List (List V)} (h : FZs E blk off z es) (k : FZs E blk (off + es.length * z) z fs) : FZs E blk off z (es ++ fs) :=
  FZs.of_get fun i e he => by
    by_cases hi : i < es.length
    · rw [List.getElem?_append_left hi] at he; exact h.get _ _ he
    · rw [List.getElem?_append_right (by omega)] at he
      have := k.get _ _ he
      rwa [show off + es.length * z + (i - es.length) * z = off + i * z by rw [Nat.add_assoc, ← Nat.add_mul]; congr 2; omega] at this

theorem FZs.flat {E : Env} : ∀ {blk off z : Nat} {es : List (List V)}, FZs E blk off z es → FZ E blk off es.flatten ∧ es.flatten.length = es.length * z
  | _, _, _, _, .nil _ _ _ => ⟨.nil _ _, by simp⟩
  | _, _, _, _, .cons blk off z e es hz hr t => by
    obtain ⟨a, b⟩ := FZs.flat t
    refine ⟨?_, by simp [b, hz, Nat.add_mul]; omega⟩
    rw [List.flatten_cons]
    exact hr.append (by rw [hz]; exact a)

theorem FZs.of_flat {E : Env} {blk z : Nat} : ∀ {off : Nat} {es : List (List V)}, (∀ e ∈ es, e.length = z) → FZ E blk off es.flatten → FZs E blk off z es
  | off, [], _, _ => .nil _ _ _
  | off, e :: es, hz, h => by
    have h0 := hz e (by simp)
    rw [List.flatten_cons] at h
    have h1 := h.take e.length
    have h2 := h.drop e.length
    rw [List.take_left' rfl] at h1
    rw [List.drop_left' rfl, h0] at h2
    exact .cons blk off z e es h0 h1 (FZs.of_flat (fun x hx => hz x (by simp [hx])) h2)

/-! ### slots -/
inductive TVR (E : Env) (L : Nat → Option Place) : TV → Value → Prop where
  | v (x : V) (x' : Value) (h : AR E x x') : TVR E L (.v x) x'
  | l (d o : Nat) (p : Place) (h : L d = some p) : TVR E L (.l d o) (.pointer (some ⟨p.blk, p.off + o, none⟩))
  | e (cs : List V) (blk off : Nat) (h : FZ E blk off cs) : TVR E L (.e cs) (.pointer (some ⟨blk, off, none⟩))

def Lle (L L' : Nat → Option Place) : Prop := ∀ d p, L d = some p → L' d = some p

theorem TVR.mono {E E' : Env} {L L' : Nat → Option Place} (h : E.le E') (k : Lle L L') {t : TV} {v : Value} (r : TVR E L t v) : TVR E' L' t v := by
  cases r with
  | v x _ r => exact .v _ _ (r.mono h)
  | l d o p e => exact .l d o p (k d p e)
  | e cs blk off r => exact .e cs blk off (r.mono h)

def TR (E : Env) (L : Nat → Option Place) (nt : Nat) (tm : TM) (tmps : Array Value) : Prop :=
  tmps.size = nt ∧ ∀ t v, tg tm t = some v → ∃ v', tmps[t]? = some v' ∧ TVR E L v v'

theorem TR.mono {E E' : Env} {L L' : Nat → Option Place} {nt : Nat} {tm : TM} {tmps : Array Value} (h : E.le E') (k : Lle L L') (r : TR E L nt tm tmps) : TR E' L' nt tm tmps :=
  ⟨r.1, fun t v ht => let ⟨v', a, b⟩ := r.2 t v ht; ⟨v', a, b.mono h k⟩⟩

theorem tg_cons (d : Nat) (v : TV) (tm : TM) (t : Nat) : tg ((d, v) :: tm) t = if t = d then some v else tg tm t := by
  simp only [tg]
  cases hb : Nat.beq d t with
  | true => rw [if_pos (Nat.eq_of_beq_eq_true hb).symm]
  | false => rw [if_neg]; rintro rfl; rw [Nat.beq_refl] at hb; cases hb

theorem tg_filter {p : Nat × TV → Bool} : ∀ {tm : TM} {t : Nat} {v : TV}, tg (tm.filter p) t = some v → (∀ x y, p (t, x) = p (t, y)) → tg tm t = some v ∧ p (t, v) = true
  | [], t, v, h, _ => by simp [tg] at h
  | (d, x) :: tm, t, v, h, hp => by
    simp only [List.filter] at h
    rw [tg_cons]
    by_cases e : t = d
    · subst e
      rw [if_pos rfl]
      cases hq : p (t, x) with
      | true => rw [hq] at h; simp only [tg_cons, if_true] at h; cases h; exact ⟨rfl, hq⟩
      | false =>
        rw [hq] at h
        obtain ⟨a, b⟩ := tg_filter h hp
        rw [hp v x, hq] at b; cases b
    · rw [if_neg e]
      cases hq : p (d, x) with
      | true => rw [hq] at h; simp only [tg_cons, if_neg e] at h; exact tg_filter h hp
      | false => rw [hq] at h; exact tg_filter h hp

theorem tg_del {tm : TM} {d t : Nat} {v : TV} (h : tg (tdel tm d) t = some v) : tg tm t = some v ∧ t ≠ d := by
  obtain ⟨a, b⟩ := tg_filter h (fun _ _ => rfl)
  refine ⟨a, ?_⟩
  rintro rfl
  simp [Nat.beq_refl] at b

theorem tg_cons_some {e : Nat × TV} {tm : TM} {t : Nat} {v : TV} (h : tg (e :: tm) t = some v) : (e.1 = t ∧ e.2 = v) ∨ (e.1 ≠ t ∧ tg tm t = some v) := by
  obtain ⟨d, x⟩ := e
  rw [tg_cons] at h
  split at h
  · rename_i e; cases h; exact .inl ⟨e.symm, rfl⟩
  · rename_i e; exact .inr ⟨fun z => e z.symm, h⟩

theorem lg_cons (d : Nat) (v : List V) (lc : LM) (t : Nat) : lg ((d, v) :: lc) t = if t = d then some v else lg lc t := by
  simp only [lg]
  cases hb : Nat.beq d t with
  | true => rw [if_pos (Nat.eq_of_beq_eq_true hb).symm]
  | false => rw [if_neg]; rintro rfl; rw [Nat.beq_refl] at hb; cases hb

/-! ### memory -/
inductive ADR (E : Env) : AD → Deferred → Prop where
  | call (f : FuncId) (c a : List V) (c' a' : Array Value) (hc : ARs E c c'.toList) (ha : ARs E a a'.toList) : ADR E (.call ⟨.func f, c, a⟩) { target := .fn (.func f) c', args := a' }
  | collected (r : Nat) (p : Place) (h : E.ob r = some p) : ADR E (.collected r) { target := .collected p.blk, args := #[] }

theorem ADR.mono {E E' : Env} {d : AD} {d' : Deferred} (h : E.le E') (r : ADR E d d') : ADR E' d d' := by
  cases r with
  | call f c a c' a' hc ha => exact .call f c a c' a' (hc.mono h) (ha.mono h)
  | collected r p e => exact .collected r p (h.ob _ _ e)

/-- a row of cells, as it is known. -/
def CellsR (E : Env) (cs : List V) (p : Place) (w : World) : Prop :=
  ∃ c el lo hi, w.heap[p.blk]? = some (.cells c el (lo, hi)) ∧ (∀ i, i < c.size → ¬ (lo ≤ i ∧ i < hi)) ∧ p.off + p.ext ≤ c.size ∧ cs.length ≤ p.ext ∧
      ∀ (i : Nat) (v : V), cs[i]? = some v → v.isCell = true ∧ ∃ v', c[p.off + i]? = some v' ∧ AR E v v'

theorem CellsR.mono {E E' : Env} {cs : List V} {p : Place} {w : World} (h : E.le E') (r : CellsR E cs p w) : CellsR E' cs p w := by
  obtain ⟨c, el, lo, hi, h1, h2, h3, h4, h5⟩ := r
  exact ⟨c, el, lo, hi, h1, h2, h3, h4, fun i v hv => let ⟨a, v', b, c⟩ := h5 i v hv; ⟨a, v', b, c.mono h⟩⟩

theorem CellsR.world {E : Env} {cs : List V} {p : Place} {w w' : World} (h : w'.heap[p.blk]? = w.heap[p.blk]?) (r : CellsR E cs p w) : CellsR E cs p w' := by
  simpa only [CellsR, h] using r

def noL : Nat → Option Place := fun _ => none

def ObjR (E : Env) (o : Obj) (p : Place) (w : World) : Prop :=
  match o with
  | .cells _ cs => CellsR E cs p w
  | .map es => ∃ ents clock, w.heap[p.blk]? = some (.map ents clock) ∧ All₂ (fun (e : V × V) (m : MapEntry) => AR E e.1 m.key ∧ AR E e.2 m.val) es ents.toList
  | .loop l => ∃ L, w.heap[p.blk]? = some (.loop L) ∧ L.state = l.state ∧ L.pending = l.pending ∧ L.fn = l.fn ∧ L.params.toList = l.params ∧ L.assign = l.assign ∧ L.body = l.body ∧ TR E noL l.nt l.tmps L.tmps
  | .dfr none => ∃ c, w.heap[p.blk]? = some (.deferred c)
  | .dfr (some ds) => ∃ c, w.heap[p.blk]? = some (.deferred (some c)) ∧ All₂ (ADR E) ds c
  | .siter s pos => ∃ x, w.heap[p.blk]? = some (.stringIter x pos) ∧ x.data.toList.map UInt8.toNat = s
  | .tok _ => False

theorem ObjR.mono {E E' : Env} {o : Obj} {p : Place} {w : World} (h : E.le E') (r : ObjR E o p w) : ObjR E' o p w := by
  cases o with
  | cells opn cs => exact CellsR.mono h r
  | map es =>
    obtain ⟨ents, clock, h1, h2⟩ := r
    exact ⟨ents, clock, h1, h2.mono fun _ _ ⟨a, b⟩ => ⟨a.mono h, b.mono h⟩⟩
  | loop l =>
    obtain ⟨L, h1, h2, h3, h4, h5, h6, h7, h8⟩ := r
    exact ⟨L, h1, h2, h3, h4, h5, h6, h7, h8.mono h fun _ _ e => e⟩
  | dfr c =>
    cases c with
    | none => exact r
    | some ds => obtain ⟨c, h1, h2⟩ := r; exact ⟨c, h1, h2.mono fun _ _ => ADR.mono h⟩
  | siter s pos => exact r
  | tok n => exact r

/-- only the block itself matters. -/
theorem ObjR.world {E : Env} {o : Obj} {p : Place} {w w' : World} (h : w'.heap[p.blk]? = w.heap[p.blk]?) (r : ObjR E o p w) : ObjR E o p w' := by
  cases o with
  | cells opn cs => exact CellsR.world h r
  | map es => simpa only [ObjR, h] using r
  | loop l => simpa only [ObjR, h] using r
  | dfr c => cases c <;> simpa only [ObjR, h] using r
  | siter s pos => simpa only [ObjR, h] using r
  | tok n => exact r

/-- who has a block. -/
inductive Own where
  | no
  | ob (b : Nat)
  | tk (b : Nat)
  | lc (d : Nat)
  | pr (z : Option Nat)
  | fz
  deriving DecidableEq

/-- a frame's own: where its variables stand; blocks of callers, which stay; who has a block. -/
structure Fx where
  loc : Nat → Option Place
  prot : Nat → Option (Go.Obj × Option Nat)
  own : Nat → Own

/-- where one more element may stand. -/
def TokR (p : Place) (w : World) : Prop := ∃ c el lo hi, w.heap[p.blk]? = some (.cells c el (lo, hi)) ∧ (∀ i, i < c.size → ¬ (lo ≤ i ∧ i < hi)) ∧ p.off + p.ext ≤ c.size

structure MR (E : Env) (F : Fx) (h : H) (w0 w : World) : Prop where
  below : Below w0.heap.size w0 w
  fresh : ∀ b, h.nxt ≤ b → E.ob b = none ∧ h.ob b = none ∧ ∀ n, E.tk b n = none
  glo : glim ≤ h.nxt
  glb : ∀ b o, b < glim → h.ob b = some o → ∃ op cs, o = .cells op cs
  gbl : ∀ b p, b < glim → E.ob b = some p → p.blk < w0.heap.size
  lto : ∀ B, F.own B ≠ .no → B < w.heap.size
  obj : ∀ b o p, h.ob b = some o → E.ob b = some p → ObjR E o p w
  oOb : ∀ b o p, glim ≤ b → h.ob b = some o → E.ob b = some p → F.own p.blk = .ob b ∧ w0.heap.size ≤ p.blk
  fz : ∀ B i v, E.fz B i = some v → ∃ c el q, w.heap[B]? = some (.cells c el q) ∧ c[i]? = some v
  oFz : ∀ B i v, E.fz B i = some v → w0.heap.size ≤ B → F.own B = .fz ∨ (∃ b, F.own B = .tk b) ∨ ∃ k, F.own B = .pr (some k) ∧ i < k
  tok : ∀ b n p, h.ob b = some (.tok n) → E.tk b n = some p → F.own p.blk = .tk b ∧ w0.heap.size ≤ p.blk ∧ TokR p w ∧ ∀ i, p.off ≤ i → E.fz p.blk i = none
  tokn : ∀ b n m, h.ob b = some (.tok n) → n < m → E.tk b m = none
  toko : ∀ b n, h.ob b = some (.tok n) → E.ob b = none
  loc : ∀ d p, F.loc d = some p → F.own p.blk = .lc d ∧ w0.heap.size ≤ p.blk ∧ ∃ cs, lg h.lc d = some cs ∧ CellsR E cs p w
  prot : ∀ B x, F.prot B = some x → w.heap[B]? = some x.1 ∧ F.own B = .pr x.2

theorem ObjR.lt {E : Env} {o : Obj} {p : Place} {w : World} (r : ObjR E o p w) : p.blk < w.heap.size := by
  have key : ∀ x, w.heap[p.blk]? = some x → p.blk < w.heap.size := fun x h => (Array.getElem?_eq_some_iff.1 h).1
  cases o with
  | cells opn cs => obtain ⟨_, _, _, _, h, _⟩ := r; exact key _ h
  | map es => obtain ⟨_, _, h, _⟩ := r; exact key _ h
  | loop l => obtain ⟨_, h, _⟩ := r; exact key _ h
  | dfr c => cases c with
    | none => obtain ⟨_, h⟩ := r; exact key _ h
    | some ds => obtain ⟨_, h, _⟩ := r; exact key _ h
  | siter s pos => obtain ⟨_, h, _⟩ := r; exact key _ h
  | tok n => exact r.elim

theorem MR.lt {E : Env} {F : Fx} {h : H} {w0 w : World} (m : MR E F h w0 w) {b : Nat} {o : Obj} {p : Place} (hb : h.ob b = some o) (hE : E.ob b = some p) : p.blk < w.heap.size := (m.obj b o p hb hE).lt

theorem MR.nxt_of {E : Env} {F : Fx} {h : H} {w0 w : World} (m : MR E F h w0 w) {b : Nat} {o : Obj} (hb : h.ob b = some o) : b < h.nxt := by
  rcases Nat.lt_or_ge b h.nxt with g | g
  · exact g
  · have := (m.fresh b g).2.1; rw [this] at hb; cases hb

theorem MR.env_of {E : Env} {F : Fx} {h : H} {w0 w : World} (m : MR E F h w0 w) {b : Nat} {p : Place} (hb : E.ob b = some p) : b < h.nxt := by
  rcases Nat.lt_or_ge b h.nxt with g | g
  · exact g
  · have := (m.fresh b g).1; rw [this] at hb; cases hb

theorem MR.fzlt {E : Env} {F : Fx} {h : H} {w0 w : World} (m : MR E F h w0 w) {B i : Nat} {v : Value} (hb : E.fz B i = some v) : B < w.heap.size := by
  obtain ⟨c, el, q, h1, _⟩ := m.fz B i v hb
  exact (Array.getElem?_eq_some_iff.1 h1).1

/-- what a piece of running may do to what is known of addresses and of memory not yet made. -/
structure Ext (E : Env) (h : H) (E' : Env) (h' : H) : Prop where
  le : E.le E'
  old : ∀ b, b < h.nxt → E'.ob b = E.ob b
  nxt : h.nxt ≤ h'.nxt
  ghost : ∀ b o, b < h.nxt → E.ob b = none → h.ob b = some o → (∀ n, o ≠ .tok n) → h'.ob b = some o

theorem Ext.refl (E : Env) (h : H) : Ext E h E h := ⟨Env.le_refl E, fun _ _ => rfl, Nat.le_refl _, fun _ _ _ _ h _ => h⟩
theorem Ext.trans {E E' E'' : Env} {h h' h'' : H} (x : Ext E h E' h') (y : Ext E' h' E'' h'') : Ext E h E'' h'' :=
  ⟨x.le.trans y.le, fun b hb => (y.old b (Nat.lt_of_lt_of_le hb x.nxt)).trans (x.old b hb), Nat.le_trans x.nxt y.nxt,
    fun b o hb he ho hn => y.ghost b o (Nat.lt_of_lt_of_le hb x.nxt) ((x.old b hb).trans he) (x.ghost b o hb he ho hn) hn⟩
end Go.VM
