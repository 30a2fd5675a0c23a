/- The machine of values: a call over few objects, numbered from one on, is a call over any memory that holds such. -/
import Derived.Test.YtdmpeinbbcjamaaVmExe
set_option linter.unusedVariables false
set_option linter.unusedSimpArgs false
namespace Go.VM
open Go.RowKit

/-! ### other numbers -/
def LC.ren (ρ : Nat → Nat) : LC → LC
  | .tk id => .tk (ρ id)
  | c => c

def fnRen (ρ : Nat → Nat) : Fn → Fn
  | .yield l => .yield (ρ l)
  | f => f

def fnIn (D : Nat → Prop) : Fn → Prop
  | .yield l => D l
  | _ => True

mutual
def V.ren (ρ : Nat → Nat) : V → V
  | .bool b => .bool b
  | .int k n => .int k n
  | .str s => .str s
  | .nilp => .nilp
  | .ptr b o => .ptr (ρ b) o
  | .lst es c => .lst (renss ρ es) (c.ren ρ)
  | .sl b o n c => .sl (ρ b) o n c
  | .nilm => .nilm
  | .map r => .map (ρ r)
  | .fn f a c => .fn (fnRen ρ f) (rens ρ a) (rens ρ c)
  | .nilf => .nilf
  | .iface t v => .iface t (v.ren ρ)
  | .nili => .nili
  | .agg l => .agg (rens ρ l)
  | .tup l => .tup (rens ρ l)
def rens (ρ : Nat → Nat) : List V → List V
  | [] => []
  | v :: l => v.ren ρ :: rens ρ l
def renss (ρ : Nat → Nat) : List (List V) → List (List V)
  | [] => []
  | e :: es => rens ρ e :: renss ρ es
end

def LC.In (D : Nat → Prop) : LC → Prop
  | .tk id => D id ∧ glim ≤ id
  | _ => True

mutual
/-- all objects that it names are some of these. -/
def V.In (D : Nat → Prop) : V → Prop
  | .ptr b _ => D b
  | .lst es c => Inss D es ∧ c.In D
  | .sl b _ _ _ => D b
  | .map r => D r
  | .fn f a c => fnIn D f ∧ Ins D a ∧ Ins D c
  | .iface _ v => v.In D
  | .agg l => Ins D l
  | .tup l => Ins D l
  | .bool _ => True
  | .int _ _ => True
  | .str _ => True
  | .nilp => True
  | .nilm => True
  | .nilf => True
  | .nili => True
def Ins (D : Nat → Prop) : List V → Prop
  | [] => True
  | v :: l => v.In D ∧ Ins D l
def Inss (D : Nat → Prop) : List (List V) → Prop
  | [] => True
  | e :: es => Ins D e ∧ Inss D es
end

/-- one memory's numbers, in another's. -/
structure Into (ρ : Nat → Nat) (D : Nat → Prop) (E E' : Env) : Prop where
  ob : ∀ i p, D i → E.ob (ρ i) = some p → E'.ob i = some p
  tk : ∀ i n p, D i → glim ≤ i → E.tk (ρ i) n = some p → E'.tk i n = some p
  fz : ∀ B i v, E.fz B i = some v → E'.fz B i = some v

structure Onto (ρ : Nat → Nat) (D : Nat → Prop) (E' E : Env) : Prop where
  ob : ∀ i p, D i → E'.ob i = some p → E.ob (ρ i) = some p
  tk : ∀ i n p, D i → glim ≤ i → E'.tk i n = some p → E.tk (ρ i) n = some p
  fz : ∀ B i v, E'.fz B i = some v → E.fz B i = some v

section
variable {ρ : Nat → Nat} {D : Nat → Prop} {E E' : Env}

theorem isCell_ren (v : V) : (v.ren ρ).isCell = v.isCell := by
  cases v with
  | fn f a c => cases f <;> rfl
  | _ => rfl

theorem rens_length : ∀ (l : List V), (rens ρ l).length = l.length
  | [] => rfl
  | v :: l => by simp only [rens, List.length_cons, rens_length l]

theorem renss_length : ∀ (l : List (List V)), (renss ρ l).length = l.length
  | [] => rfl
  | v :: l => by simp only [renss, List.length_cons, renss_length l]

theorem rens_get : ∀ (l : List V) (i : Nat), (rens ρ l)[i]? = (l[i]?).map (V.ren ρ)
  | [], i => by simp [rens]
  | v :: l, 0 => by simp [rens]
  | v :: l, i + 1 => by simp only [rens, List.getElem?_cons_succ]; exact rens_get l i

theorem CapR.into (h : Into ρ D E E') {c : LC} {blk off z n cap : Nat} (hi : c.In D) (r : CapR E (c.ren ρ) blk off z n cap) : CapR E' c blk off z n cap := by
  cases c with
  | tk id => exact h.tk id n _ hi.1 hi.2 r
  | _ => exact r

theorem CapR.onto (h : Onto ρ D E' E) {c : LC} {blk off z n cap : Nat} (hi : c.In D) (r : CapR E' c blk off z n cap) : CapR E (c.ren ρ) blk off z n cap := by
  cases c with
  | tk id => exact h.tk id n _ hi.1 hi.2 r
  | _ => exact r

theorem LC0.ren {c : LC} {a : Option Addr} {cap : Nat} : LC0 (c.ren ρ) a cap ↔ LC0 c a cap := by cases c <;> exact Iff.rfl

mutual
theorem AR.into (h : Into ρ D E E') : ∀ {v : V} {x : Value}, v.In D → AR E (v.ren ρ) x → AR E' v x
  | .bool b, _, _, r => by cases r; exact .bool b
  | .int k n, _, _, r => by cases r; exact .int k n
  | .str s, _, _, r => by cases r with | str _ x h => exact .str s x h
  | .nilp, _, _, r => by cases r; exact .nilp
  | .ptr b o, _, hi, r => by cases r with | ptr _ _ p e => exact .ptr b o p (h.ob b p hi e)
  | .lst [] c, _, hi, r => by cases r with | lst0 _ a cap e => exact .lst0 c a cap (LC0.ren.1 e)
  | .lst (e :: es) c, _, hi, r => by
    cases r with
    | lst _ _ _ blk off n cap z f hn hc hr => exact .lst e es c blk off n cap z (FZs.into h hi.1 f) (by rw [renss_length] at hn; exact hn) hc (CapR.into h hi.2 hr)
  | .sl b o n c, _, hi, r => by
    cases r with
    | sl _ _ _ p c e hn => exact .sl b o n p c (h.ob b p hi e) hn
    | slo _ _ _ z p c e hc hn => exact .slo b o n z p c (h.ob b p hi e) hc hn
    | sl0 _ _ c a hc p e hz => exact .sl0 b o c a hc p (h.ob b p hi e) hz
  | .nilm, _, _, r => by cases r; exact .nilm
  | .map m, _, hi, r => by cases r with | map _ p e => exact .map m p (h.ob m p hi e)
  | .fn (.func f) a c, _, hi, r => by cases r with | fn _ _ _ a' c' ra rc => exact .fn f a c a' c' (ARs.into h hi.2.1 ra) (ARs.into h hi.2.2 rc)
  | .fn (.yield l) [] [], _, hi, r => by cases r with | yld _ p e => exact .yld l p (h.ob l p hi.1 e)
  | .fn (.yield l) (_ :: _) _, _, hi, r => by cases r
  | .fn (.yield l) [] (_ :: _), _, hi, r => by cases r
  | .fn (.method _) _ _, _, _, r => by cases r
  | .fn (.methodOf _ _) _ _, _, _, r => by cases r
  | .fn (.via _ _ _ _) _ _, _, _, r => by cases r
  | .nilf, _, _, r => by cases r; exact .nilf
  | .iface t v, _, hi, r => by cases r with | iface _ _ v' r => exact .iface t v v' (AR.into h hi r)
  | .nili, _, _, r => by cases r; exact .nili
  | .agg l, _, hi, r => by cases r with | agg _ cs r => exact .agg l cs (ARs.into h hi r)
  | .tup l, _, hi, r => by cases r with | tup _ cs r => exact .tup l cs (ARs.into h hi r)
theorem ARs.into (h : Into ρ D E E') : ∀ {l : List V} {l' : List Value}, Ins D l → ARs E (rens ρ l) l' → ARs E' l l'
  | [], _, _, r => by cases r; exact .nil
  | v :: l, _, hi, r => by cases r with | cons _ v' _ m a t => exact .cons v v' l m (AR.into h hi.1 a) (ARs.into h hi.2 t)
theorem FZ.into (h : Into ρ D E E') : ∀ {l : List V} {blk off : Nat}, Ins D l → FZ E blk off (rens ρ l) → FZ E' blk off l
  | [], blk, off, _, _ => .nil blk off
  | v :: l, blk, off, hi, r => by cases r with | cons _ _ _ v' _ f c a t => exact .cons blk off v v' l (h.fz _ _ _ f) (by rw [isCell_ren] at c; exact c) (AR.into h hi.1 a) (FZ.into h hi.2 t)
theorem FZs.into (h : Into ρ D E E') : ∀ {es : List (List V)} {blk off z : Nat}, Inss D es → FZs E blk off z (renss ρ es) → FZs E' blk off z es
  | [], blk, off, z, _, _ => .nil blk off z
  | e :: es, blk, off, z, hi, r => by cases r with | cons _ _ _ _ _ hz f t => exact .cons blk off z e es (by rw [rens_length] at hz; exact hz) (FZ.into h hi.1 f) (FZs.into h hi.2 t)
end

mutual
theorem AR.onto (h : Onto ρ D E' E) : ∀ {v : V} {x : Value}, v.In D → AR E' v x → AR E (v.ren ρ) x
  | .bool b, _, _, r => by cases r; exact .bool b
  | .int k n, _, _, r => by cases r; exact .int k n
  | .str s, _, _, r => by cases r with | str _ x h => exact .str s x h
  | .nilp, _, _, r => by cases r; exact .nilp
  | .ptr b o, _, hi, r => by cases r with | ptr _ _ p e => exact .ptr (ρ b) o p (h.ob b p hi e)
  | .lst [] c, _, hi, r => by cases r with | lst0 _ a cap e => exact .lst0 (c.ren ρ) a cap (LC0.ren.2 e)
  | .lst (e :: es) c, _, hi, r => by
    cases r with
    | lst _ _ _ blk off n cap z f hn hc hr => exact .lst (rens ρ e) (renss ρ es) (c.ren ρ) blk off n cap z (FZs.onto h hi.1 f) (by rw [renss_length]; exact hn) hc (CapR.onto h hi.2 hr)
  | .sl b o n c, _, hi, r => by
    cases r with
    | sl _ _ _ p c e hn => exact .sl (ρ b) o n p c (h.ob b p hi e) hn
    | slo _ _ _ z p c e hc hn => exact .slo (ρ b) o n z p c (h.ob b p hi e) hc hn
    | sl0 _ _ c a hc p e hz => exact .sl0 (ρ b) o c a hc p (h.ob b p hi e) hz
  | .nilm, _, _, r => by cases r; exact .nilm
  | .map m, _, hi, r => by cases r with | map _ p e => exact .map (ρ m) p (h.ob m p hi e)
  | .fn (.func f) a c, _, hi, r => by cases r with | fn _ _ _ a' c' ra rc => exact .fn f (rens ρ a) (rens ρ c) a' c' (ARs.onto h hi.2.1 ra) (ARs.onto h hi.2.2 rc)
  | .fn (.yield l) a c, _, hi, r => by cases r with | yld _ p e => exact .yld (ρ l) p (h.ob l p hi.1 e)
  | .fn (.method _) _ _, _, _, r => by cases r
  | .fn (.methodOf _ _) _ _, _, _, r => by cases r
  | .fn (.via _ _ _ _) _ _, _, _, r => by cases r
  | .nilf, _, _, r => by cases r; exact .nilf
  | .iface t v, _, hi, r => by cases r with | iface _ _ v' r => exact .iface t (v.ren ρ) v' (AR.onto h hi r)
  | .nili, _, _, r => by cases r; exact .nili
  | .agg l, _, hi, r => by cases r with | agg _ cs r => exact .agg (rens ρ l) cs (ARs.onto h hi r)
  | .tup l, _, hi, r => by cases r with | tup _ cs r => exact .tup (rens ρ l) cs (ARs.onto h hi r)
theorem ARs.onto (h : Onto ρ D E' E) : ∀ {l : List V} {l' : List Value}, Ins D l → ARs E' l l' → ARs E (rens ρ l) l'
  | [], _, _, r => by cases r; exact .nil
  | v :: l, _, hi, r => by cases r with | cons _ v' _ m a t => exact .cons (v.ren ρ) v' (rens ρ l) m (AR.onto h hi.1 a) (ARs.onto h hi.2 t)
theorem FZ.onto (h : Onto ρ D E' E) : ∀ {l : List V} {blk off : Nat}, Ins D l → FZ E' blk off l → FZ E blk off (rens ρ l)
  | [], blk, off, _, _ => .nil blk off
  | v :: l, blk, off, hi, r => by cases r with | cons _ _ _ v' _ f c a t => exact .cons blk off (v.ren ρ) v' (rens ρ l) (h.fz _ _ _ f) (by rw [isCell_ren]; exact c) (AR.onto h hi.1 a) (FZ.onto h hi.2 t)
theorem FZs.onto (h : Onto ρ D E' E) : ∀ {es : List (List V)} {blk off z : Nat}, Inss D es → FZs E' blk off z es → FZs E blk off z (renss ρ es)
  | [], blk, off, z, _, _ => .nil blk off z
  | e :: es, blk, off, z, hi, r => by cases r with | cons _ _ _ _ _ hz f t => exact .cons blk off z (rens ρ e) (renss ρ es) (by rw [rens_length]; exact hz) (FZ.onto h hi.1 f) (FZs.onto h hi.2 t)
end

def renes (ρ : Nat → Nat) : List (V × V) → List (V × V)
  | [] => []
  | (a, b) :: l => (a.ren ρ, b.ren ρ) :: renes ρ l

def Ines (D : Nat → Prop) : List (V × V) → Prop
  | [] => True
  | (a, b) :: l => (a.In D ∧ b.In D) ∧ Ines D l

def Obj.ren (ρ : Nat → Nat) : Obj → Obj
  | .cells opn cs => .cells opn (rens ρ cs)
  | .map es => .map (renes ρ es)
  | o => o

/-- an object of the plain kinds, all of whose references are some of these. -/
def Obj.In (D : Nat → Prop) : Obj → Prop
  | .cells _ cs => Ins D cs
  | .map es => Ines D es
  | .siter _ _ => True
  | .tok _ => True
  | _ => False

theorem Ins.get : ∀ {l : List V} {i : Nat} {v : V}, Ins D l → l[i]? = some v → v.In D
  | [], i, v, _, h => by simp at h
  | a :: l, 0, v, hi, h => by simp at h; subst h; exact hi.1
  | a :: l, i + 1, v, hi, h => Ins.get hi.2 (by simpa using h)

theorem ObjR.into (h : Into ρ D E E') {o : Obj} {p : Place} {w : World} (hi : o.In D) (r : ObjR E (o.ren ρ) p w) : ObjR E' o p w := by
  cases o with
  | cells opn cs =>
    obtain ⟨c, el, lo, hh, a1, a2, a3, a4, a5⟩ := r
    refine ⟨c, el, lo, hh, a1, a2, a3, by rw [rens_length] at a4; exact a4, fun i v hv => ?_⟩
    obtain ⟨b1, v', b2, b3⟩ := a5 i (v.ren ρ) (by rw [rens_get, hv]; rfl)
    exact ⟨by rw [isCell_ren] at b1; exact b1, v', b2, AR.into h (Ins.get hi hv) b3⟩
  | map es =>
    obtain ⟨ents, clock, a1, a2⟩ := r
    refine ⟨ents, clock, a1, ?_⟩
    have go : ∀ (es : List (V × V)) (l : List MapEntry), Ines D es → All₂ (fun (e : V × V) (m : MapEntry) => AR E e.1 m.key ∧ AR E e.2 m.val) (renes ρ es) l → All₂ (fun (e : V × V) (m : MapEntry) => AR E' e.1 m.key ∧ AR E' e.2 m.val) es l := by
      intro es
      induction es with
      | nil => intro l _ r; cases r; exact .nil
      | cons e es ih =>
        intro l hi r
        obtain ⟨a, b⟩ := e
        cases r with
        | cons r t => exact .cons ⟨AR.into h hi.1.1 r.1, AR.into h hi.1.2 r.2⟩ (ih _ hi.2 t)
    exact go es _ hi a2
  | loop l => exact hi.elim
  | dfr c => exact hi.elim
  | siter s pos => exact r
  | tok n => exact r

theorem ObjR.onto (h : Onto ρ D E' E) {o : Obj} {p : Place} {w : World} (hi : o.In D) (r : ObjR E' o p w) : ObjR E (o.ren ρ) p w := by
  cases o with
  | cells opn cs =>
    obtain ⟨c, el, lo, hh, a1, a2, a3, a4, a5⟩ := r
    refine ⟨c, el, lo, hh, a1, a2, a3, by rw [rens_length]; exact a4, fun i v hv => ?_⟩
    rw [rens_get] at hv
    cases hq : cs[i]? with
    | none => rw [hq] at hv; cases hv
    | some u =>
      rw [hq] at hv; cases hv
      obtain ⟨b1, v', b2, b3⟩ := a5 i u hq
      exact ⟨by rw [isCell_ren]; exact b1, v', b2, AR.onto h (Ins.get hi hq) b3⟩
  | map es =>
    obtain ⟨ents, clock, a1, a2⟩ := r
    refine ⟨ents, clock, a1, ?_⟩
    have go : ∀ (es : List (V × V)) (l : List MapEntry), Ines D es → All₂ (fun (e : V × V) (m : MapEntry) => AR E' e.1 m.key ∧ AR E' e.2 m.val) es l → All₂ (fun (e : V × V) (m : MapEntry) => AR E e.1 m.key ∧ AR E e.2 m.val) (renes ρ es) l := by
      intro es
      induction es with
      | nil => intro l _ r; cases r; exact .nil
      | cons e es ih =>
        intro l hi r
        obtain ⟨a, b⟩ := e
        cases r with
        | cons r t => exact .cons ⟨AR.onto h hi.1.1 r.1, AR.onto h hi.1.2 r.2⟩ (ih _ hi.2 t)
    exact go es _ hi a2
  | loop l => exact hi.elim
  | dfr c => exact hi.elim
  | siter s pos => exact r
  | tok n => exact r
end
end Go.VM
