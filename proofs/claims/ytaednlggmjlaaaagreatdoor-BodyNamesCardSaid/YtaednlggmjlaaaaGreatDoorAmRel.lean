/- The abstract machine: how its values and memory stand to the model's. -/
import Derived.Test.YtaednlggmjlaaaaGreatDoorAmRun
import Derived.Calls
import Derived.Below
set_option linter.unusedVariables false
set_option linter.unusedSimpArgs false
namespace Go.AM
noncomputable section
open Go.RowKit

/-! ### tries -/
theorem T.get_leaf {α : Type} (n : Nat) : (T.leaf : T α).get n = none := by cases n <;> rfl

theorem T.get_set {α : Type} : ∀ (f : Nat) (t : T α) (n : Nat) (a : α) (m : Nat), n + 1 < 2 ^ f → (T.set f t n a).get m = if m = n then some a else t.get m := by
  intro f
  induction f with
  | zero => intro t n a m h; omega
  | succ f ih =>
    intro t n a m h
    cases n with
    | zero =>
      cases t <;> cases m <;> simp [T.set_0, T.set_lz, T.set_nz, T.set_ls, T.set_ns, T.get_l, T.get_z, T.get_s, T.get_leaf]
      all_goals split <;> simp [T.get_leaf]
    | succ k =>
      have hk : k / 2 + 1 < 2 ^ f := by rw [Nat.pow_succ] at h; omega
      have key : ∀ (m : Nat), Nat.beq (m % 2) 0 = Nat.beq (k % 2) 0 → (m / 2 = k / 2 ↔ m = k) := by
        intro m hm
        have e : (m % 2 = 0) ↔ (k % 2 = 0) := by
          constructor
          · intro h0; have := hm; rw [h0] at this; exact Nat.eq_of_beq_eq_true (this.symm.trans (by rfl))
          · intro h0; have := hm; rw [h0] at this; exact Nat.eq_of_beq_eq_true (this.trans (by rfl))
        omega
      have key2 : ∀ m : Nat, Nat.beq (m % 2) 0 ≠ Nat.beq (k % 2) 0 → m ≠ k := by
        intro m hm e; exact hm (by rw [e])
      cases t with
      | leaf =>
        cases hb : Nat.beq (k % 2) 0 <;> cases m with
        | zero => simp [T.set_0, T.set_lz, T.set_nz, T.set_ls, T.set_ns, T.get_l, T.get_z, T.get_s, hb]
        | succ m =>
          cases hm : Nat.beq (m % 2) 0 <;> simp [T.set_0, T.set_lz, T.set_nz, T.set_ls, T.set_ns, T.get_l, T.get_z, T.get_s, hb, hm, ih _ _ _ _ hk, T.get_leaf]
          all_goals first
            | (have := key m (by rw [hb, hm]); simp [this]; done)
            | (have := key2 m (by rw [hb, hm]; simp); simp [this]; done)
      | node l v r =>
        cases hb : Nat.beq (k % 2) 0 <;> cases m with
        | zero => simp [T.set_0, T.set_lz, T.set_nz, T.set_ls, T.set_ns, T.get_l, T.get_z, T.get_s, hb]
        | succ m =>
          cases hm : Nat.beq (m % 2) 0 <;> simp [T.set_0, T.set_lz, T.set_nz, T.set_ls, T.set_ns, T.get_l, T.get_z, T.get_s, hb, hm, ih _ _ _ _ hk]
          all_goals first
            | (have := key m (by rw [hb, hm]); simp [this]; done)
            | (have := key2 m (by rw [hb, hm]; simp); simp [this]; done)

theorem T.get_del {α : Type} : ∀ (t : T α) (n m : Nat), (t.del n).get m = if m = n then none else t.get m := by
  intro t
  induction t with
  | leaf => intro n m; simp [T.del, T.get_leaf]
  | node l v r ihl ihr =>
    intro n m
    cases n with
    | zero => cases m <;> simp [T.del, T.get_l, T.get_z, T.get_s]
    | succ k =>
      have key : ∀ (m : Nat), Nat.beq (m % 2) 0 = Nat.beq (k % 2) 0 → (m / 2 = k / 2 ↔ m = k) := by
        intro m hm
        have e : (m % 2 = 0) ↔ (k % 2 = 0) := by
          constructor
          · intro h0; have := hm; rw [h0] at this; exact Nat.eq_of_beq_eq_true (this.symm.trans (by rfl))
          · intro h0; have := hm; rw [h0] at this; exact Nat.eq_of_beq_eq_true (this.trans (by rfl))
        omega
      have key2 : ∀ m : Nat, Nat.beq (m % 2) 0 ≠ Nat.beq (k % 2) 0 → m ≠ k := by
        intro m hm e; exact hm (by rw [e])
      cases hb : Nat.beq (k % 2) 0 <;> cases m with
      | zero => simp [T.del, T.get_l, T.get_z, T.get_s, hb]
      | succ m =>
        cases hm : Nat.beq (m % 2) 0 <;> simp [T.del, T.get_l, T.get_z, T.get_s, hb, hm, ihl, ihr]
        all_goals first
          | (have := key m (by rw [hb, hm]); simp [this]; done)
          | (have := key2 m (by rw [hb, hm]; simp); simp [this]; done)

theorem fu_lim {n : Nat} (h : n < lim) : n + 1 < 2 ^ fu := by unfold lim at h; unfold fu; omega

theorem seq_iff : ∀ (a b : List Nat), seq a b = true ↔ a = b
  | [], [] => by simp [seq]
  | a :: x, b :: y => by
    simp only [seq, Bool.and_eq_true, seq_iff x y, List.cons.injEq]
    exact ⟨fun ⟨h, k⟩ => ⟨Nat.eq_of_beq_eq_true h, k⟩, fun ⟨h, k⟩ => ⟨by rw [h]; exact Nat.beq_refl b, k⟩⟩
  | [], _ :: _ => by simp [seq]
  | _ :: _, [] => by simp [seq]

/-! ### values -/
structure Place where
  blk : Nat
  off : Nat
  ext : Nat

abbrev Env := Nat → Option Place

def Env.le (E E' : Env) : Prop := ∀ b p, E b = some p → E' b = some p
theorem Env.le_refl (E : Env) : E.le E := fun _ _ h => h
theorem Env.le.trans {E E' E'' : Env} (h : E.le E') (k : E'.le E'') : E.le E'' := fun b p hb => k b p (h b p hb)

mutual
inductive AR (E : Env) : V → Value → Prop where
  | bool (b : Bool) : AR E (.bool b) (.bool b)
  | int (k : IntKind) (n : Int) : AR E (.int k n) (.int k n)
  | str (s : List Nat) (x : ByteArray) (h : x.data.toList.map UInt8.toNat = s) : AR E (.str s) (.string x)
  | nilp : AR E .nilp (.pointer none)
  | ptr (b o : Nat) (p : Place) (h : E b = some p) : AR E (.ptr b o) (.pointer (some ⟨p.blk, p.off + o, none⟩))
  | nils : AR E .nils (.slice none 0 0)
  | sl (b o n : Nat) (p : Place) (c : Nat) (h : E b = some p) (hn : n ≤ c) : AR E (.sl b o n (.ex c)) (.slice (some ⟨p.blk, p.off + o, none⟩) n c)
  | slo (b o n z : Nat) (p : Place) (c : Nat) (h : E b = some p) (hc : o + c * z = p.ext) (hn : n ≤ c) : AR E (.sl b o n (.op z)) (.slice (some ⟨p.blk, p.off + o, none⟩) n c)
  | sl0 (b o : Nat) (c : Cp) (a : Addr) (hc : ∀ k, c = .ex k → k = 0) (p : Place) (h : E b = some p) (hz : ∀ z, c = .op z → p.ext ≤ o) : AR E (.sl b o 0 c) (.slice (some a) 0 0)
  | nilm : AR E .nilm (.map none)
  | map (r : Nat) (p : Place) (h : E r = some p) : AR E (.map r) (.map (some p.blk))
  | fn (f : FuncId) (a c : List V) (a' c' : Array Value) (ha : ARs E a a'.toList) (hc : ARs E c c'.toList) : AR E (.fn (.func f) a c) (.func (.func f) a' c')
  | yld (l : Nat) (p : Place) (h : E l = some p) : AR E (.fn (.yield l) [] []) (.func (.yield p.blk) #[] #[])
  | nilf : AR E .nilf .nilFunc
  | iface (t : Nat) (v : V) (v' : Value) (h : AR E v v') : AR E (.iface t v) (.iface t v')
  | nili : AR E .nili .nilIface
  | agg (l : List V) (cs : Array Value) (h : ARs E l cs.toList) : AR E (.agg l) (.agg cs)
  | tup (l : List V) (cs : Array Value) (h : ARs E l cs.toList) : AR E (.tup l) (.tuple cs)
inductive ARs (E : Env) : List V → List Value → Prop where
  | nil : ARs E [] []
  | cons (v : V) (v' : Value) (l : List V) (l' : List Value) (h : AR E v v') (t : ARs E l l') : ARs E (v :: l) (v' :: l')
end

mutual
theorem AR.mono {E E' : Env} (h : E.le E') : ∀ {v : V} {v' : Value}, AR E v v' → AR E' v v'
  | _, _, .bool b => .bool b
  | _, _, .int k n => .int k n
  | _, _, .str s x e => .str s x e
  | _, _, .nilp => .nilp
  | _, _, .ptr b o p e => .ptr b o p (h _ _ e)
  | _, _, .nils => .nils
  | _, _, .sl b o n p c e hn => .sl b o n p c (h _ _ e) hn
  | _, _, .slo b o n z p c e hc hn => .slo b o n z p c (h _ _ e) hc hn
  | _, _, .sl0 b o c a hc p e hz => .sl0 b o c a hc p (h _ _ e) hz
  | _, _, .nilm => .nilm
  | _, _, .map r p e => .map r p (h _ _ e)
  | _, _, .fn f a c a' c' ha hc => .fn f a c a' c' (ARs.mono h ha) (ARs.mono h hc)
  | _, _, .yld l p e => .yld l p (h _ _ e)
  | _, _, .nilf => .nilf
  | _, _, .iface t v v' e => .iface t v v' (AR.mono h e)
  | _, _, .nili => .nili
  | _, _, .agg l cs e => .agg l cs (ARs.mono h e)
  | _, _, .tup l cs e => .tup l cs (ARs.mono h e)
theorem ARs.mono {E E' : Env} (h : E.le E') : ∀ {l : List V} {l' : List Value}, ARs E l l' → ARs E' l l'
  | _, _, .nil => .nil
  | _, _, .cons v v' l l' e t => .cons v v' l l' (AR.mono h e) (ARs.mono h t)
end

theorem ARs.length {E : Env} : ∀ {l : List V} {l' : List Value}, ARs E l l' → l.length = l'.length
  | _, _, .nil => rfl
  | _, _, .cons v v' l l' e t => by simp [ARs.length t]

theorem ARs.get {E : Env} : ∀ {l : List V} {l' : List Value}, ARs E l l' → ∀ (i : Nat) (v : V), l[i]? = some v → ∃ v', l'[i]? = some v' ∧ AR E v v'
  | _, _, .nil, i, v, h => by simp at h
  | _, _, .cons a a' l l' e t, 0, v, h => by simp at h; subst h; exact ⟨a', rfl, e⟩
  | _, _, .cons a a' l l' e t, i + 1, v, h => by simpa using ARs.get t i v (by simpa using h)

theorem ARs.append {E : Env} : ∀ {l m : List V} {l' m' : List Value}, ARs E l l' → ARs E m m' → ARs E (l ++ m) (l' ++ m')
  | _, _, _, _, .nil, h => h
  | _, _, _, _, .cons v v' l l' e t, h => .cons v v' _ _ e (ARs.append t h)

theorem ARs.take {E : Env} : ∀ (n : Nat) {l : List V} {l' : List Value}, ARs E l l' → ARs E (l.take n) (l'.take n)
  | 0, _, _, _ => by simpa using .nil
  | n + 1, _, _, .nil => .nil
  | n + 1, _, _, .cons v v' l l' e t => .cons v v' _ _ e (ARs.take n t)

theorem ARs.drop {E : Env} : ∀ (n : Nat) {l : List V} {l' : List Value}, ARs E l l' → ARs E (l.drop n) (l'.drop n)
  | 0, _, _, h => h
  | n + 1, _, _, .nil => .nil
  | n + 1, _, _, .cons v v' l l' e t => ARs.drop n t

theorem ARs.of_get {E : Env} : ∀ {l : List V} {l' : List Value}, l.length = l'.length → (∀ (i : Nat) (v : V), l[i]? = some v → ∃ v', l'[i]? = some v' ∧ AR E v v') → ARs E l l'
  | [], [], _, _ => .nil
  | v :: l, v' :: l', h, g => by
    obtain ⟨u, hu, hr⟩ := g 0 v rfl
    simp at hu; subst hu
    exact .cons v v' l l' hr (ARs.of_get (by simpa using h) fun i x hx => by simpa using g (i + 1) x (by simpa using hx))

theorem AR.isCell {E : Env} {v : V} {v' : Value} (h : AR E v v') (hc : v.isCell = true) : (∀ l, v' ≠ .agg l) ∧ ∀ l, v' ≠ .tuple l := by
  cases h <;> simp [V.isCell] at hc <;> exact ⟨(fun _ e => by cases e), (fun _ e => by cases e)⟩

theorem AR.cells {E : Env} {v : V} {v' : Value} (h : AR E v v') : ARs E v.cells v'.cells.toList := by
  cases h with
  | agg l cs h => exact h
  | bool b => exact .cons _ _ _ _ (.bool b) .nil
  | int k n => exact .cons _ _ _ _ (.int k n) .nil
  | str s x e => exact .cons _ _ _ _ (.str s x e) .nil
  | nilp => exact .cons _ _ _ _ .nilp .nil
  | ptr b o p e => exact .cons _ _ _ _ (.ptr b o p e) .nil
  | nils => exact .cons _ _ _ _ .nils .nil
  | sl b o n p c e hn => exact .cons _ _ _ _ (.sl b o n p c e hn) .nil
  | slo b o n z p c e hc hn => exact .cons _ _ _ _ (.slo b o n z p c e hc hn) .nil
  | sl0 b o c a hc p e hz => exact .cons _ _ _ _ (.sl0 b o c a hc p e hz) .nil
  | nilm => exact .cons _ _ _ _ .nilm .nil
  | map r p e => exact .cons _ _ _ _ (.map r p e) .nil
  | fn f a c a' c' ha hc => exact .cons _ _ _ _ (.fn f a c a' c' ha hc) .nil
  | yld l p e => exact .cons _ _ _ _ (.yld l p e) .nil
  | nilf => exact .cons _ _ _ _ .nilf .nil
  | iface t v v' e => exact .cons _ _ _ _ (.iface t v v' e) .nil
  | nili => exact .cons _ _ _ _ .nili .nil
  | tup l cs e => exact .cons _ _ _ _ (.tup l cs e) .nil

/-! ### memory -/
def TR (E : Env) (nt : Nat) (tm : T V) (tmps : Array Value) : Prop :=
  tmps.size = nt ∧ ∀ t v, tm.get t = some v → ∃ v', tmps[t]? = some v' ∧ AR E v v'

theorem TR.mono {E E' : Env} {nt : Nat} {tm : T V} {tmps : Array Value} (h : E.le E') (r : TR E nt tm tmps) : TR E' nt tm tmps :=
  ⟨r.1, fun t v ht => let ⟨v', a, b⟩ := r.2 t v ht; ⟨v', a, b.mono h⟩⟩

inductive ADR (E : Env) : AD → Deferred → Prop where
  | call (f : FuncId) (c a : List V) (c' a' : Array Value) (hc : ARs E c c'.toList) (ha : ARs E a a'.toList) : ADR E (.call ⟨.func f, c, a⟩) { target := .fn (.func f) c', args := a' }
  | collected (r : Nat) (p : Place) (h : E r = some p) : ADR E (.collected r) { target := .collected p.blk, args := #[] }

theorem ADR.mono {E E' : Env} {d : AD} {d' : Deferred} (h : E.le E') (r : ADR E d d') : ADR E' d d' := by
  cases r with
  | call f c a c' a' hc ha => exact .call f c a c' a' (hc.mono h) (ha.mono h)
  | collected r p e => exact .collected r p (h _ _ e)

inductive All₂ {α β : Type} (R : α → β → Prop) : List α → List β → Prop where
  | nil : All₂ R [] []
  | cons {a : α} {b : β} {l : List α} {m : List β} (h : R a b) (t : All₂ R l m) : All₂ R (a :: l) (b :: m)

theorem All₂.mono {α β : Type} {R S : α → β → Prop} (h : ∀ a b, R a b → S a b) : ∀ {l : List α} {m : List β}, All₂ R l m → All₂ S l m
  | _, _, .nil => .nil
  | _, _, .cons r t => .cons (h _ _ r) (All₂.mono h t)

theorem All₂.length {α β : Type} {R : α → β → Prop} : ∀ {l : List α} {m : List β}, All₂ R l m → l.length = m.length
  | _, _, .nil => rfl
  | _, _, .cons r t => by simp [All₂.length t]

theorem All₂.append {α β : Type} {R : α → β → Prop} : ∀ {l l' : List α} {m m' : List β}, All₂ R l m → All₂ R l' m' → All₂ R (l ++ l') (m ++ m')
  | _, _, _, _, .nil, h => h
  | _, _, _, _, .cons r t, h => .cons r (All₂.append t h)

def ObjR (E : Env) (o : Obj) (p : Place) (w : World) : Prop :=
  match o with
  | .cells _ cs => ∃ c el lo hi, w.heap[p.blk]? = some (.cells c el (lo, hi)) ∧ (∀ i, i < c.size → ¬ (lo ≤ i ∧ i < hi)) ∧ p.off + p.ext ≤ c.size ∧ cs.length ≤ p.ext ∧
      ∀ (i : Nat) (v : V), cs[i]? = some v → v.isCell = true ∧ ∃ v', c[p.off + i]? = some v' ∧ AR E v v'
  | .map es => ∃ ents clock, w.heap[p.blk]? = some (.map ents clock) ∧ All₂ (fun (e : V × V) (m : MapEntry) => AR E e.1 m.key ∧ AR E e.2 m.val) es ents.toList
  | .loop l => ∃ L, w.heap[p.blk]? = some (.loop L) ∧ L.state = l.state ∧ L.pending = l.pending ∧ L.fn = l.fn ∧ L.params.toList = l.params ∧ L.assign = l.assign ∧ L.body = l.body ∧ TR E l.nt l.tmps L.tmps
  | .dfr none => ∃ c, w.heap[p.blk]? = some (.deferred c)
  | .dfr (some ds) => ∃ c, w.heap[p.blk]? = some (.deferred (some c)) ∧ All₂ (ADR E) ds c
  | .siter s pos => ∃ x, w.heap[p.blk]? = some (.stringIter x pos) ∧ x.data.toList.map UInt8.toNat = s

theorem ObjR.mono {E E' : Env} {o : Obj} {p : Place} {w : World} (h : E.le E') (r : ObjR E o p w) : ObjR E' o p w := by
  cases o with
  | cells opn cs =>
    obtain ⟨c, el, lo, hi, h1, h2, h3, h4, h5⟩ := r
    exact ⟨c, el, lo, hi, h1, h2, h3, h4, fun i v hv => let ⟨a, v', b, c⟩ := h5 i v hv; ⟨a, v', b, c.mono h⟩⟩
  | map es =>
    obtain ⟨ents, clock, h1, h2⟩ := r
    exact ⟨ents, clock, h1, h2.mono fun _ _ ⟨a, b⟩ => ⟨a.mono h, b.mono h⟩⟩
  | loop l =>
    obtain ⟨L, h1, h2, h3, h4, h5, h6, h7, h8⟩ := r
    exact ⟨L, h1, h2, h3, h4, h5, h6, h7, h8.mono h⟩
  | dfr c =>
    cases c with
    | none => exact r
    | some ds => obtain ⟨c, h1, h2⟩ := r; exact ⟨c, h1, h2.mono fun _ _ => ADR.mono h⟩
  | siter s pos => exact r

/-- only the block itself matters. -/
theorem ObjR.world {E : Env} {o : Obj} {p : Place} {w w' : World} (h : w'.heap[p.blk]? = w.heap[p.blk]?) (r : ObjR E o p w) : ObjR E o p w' := by
  cases o with
  | cells opn cs => simpa only [ObjR, h] using r
  | map es => simpa only [ObjR, h] using r
  | loop l => simpa only [ObjR, h] using r
  | dfr c => cases c <;> simpa only [ObjR, h] using r
  | siter s pos => simpa only [ObjR, h] using r

structure MR (E : Env) (h : H) (w0 w : World) : Prop where
  below : Below w0.heap.size w0 w
  fresh : ∀ b, h.nxt ≤ b → E b = none ∧ h.get b = none
  glo : glim ≤ h.nxt
  lim : h.nxt ≤ lim
  obj : ∀ b o p, h.get b = some o → E b = some p → ObjR E o p w
  glb : ∀ b o, b < glim → h.get b = some o → ∃ op cs, o = .cells op cs
  own : ∀ b p, glim ≤ b → E b = some p → w0.heap.size ≤ p.blk
  lt : ∀ b p, E b = some p → p.blk < w.heap.size
  apart : ∀ b b' o o' p p', b ≠ b' → h.get b = some o → h.get b' = some o' → E b = some p → E b' = some p' → p.blk ≠ p'.blk

theorem MR.nxt_of {E : Env} {h : H} {w0 w : World} (m : MR E h w0 w) {b : Nat} {o : Obj} (hb : h.get b = some o) : b < h.nxt := by
  rcases Nat.lt_or_ge b h.nxt with g | g
  · exact g
  · have := (m.fresh b g).2; rw [this] at hb; cases hb

theorem MR.env_of {E : Env} {h : H} {w0 w : World} (m : MR E h w0 w) {b : Nat} {p : Place} (hb : E b = some p) : b < h.nxt := by
  rcases Nat.lt_or_ge b h.nxt with g | g
  · exact g
  · have := (m.fresh b g).1; rw [this] at hb; cases hb

/-- what a piece of running may do to what is known of addresses and of memory not yet made. -/
structure Ext (E : Env) (h : H) (E' : Env) (h' : H) : Prop where
  le : E.le E'
  old : ∀ b, b < h.nxt → E' b = E b
  nxt : h.nxt ≤ h'.nxt
  ghost : ∀ b, b < h.nxt → E b = none → h'.get b = h.get b

theorem Ext.refl (E : Env) (h : H) : Ext E h E h := ⟨Env.le_refl E, fun _ _ => rfl, Nat.le_refl _, fun _ _ _ => rfl⟩
theorem Ext.trans {E E' E'' : Env} {h h' h'' : H} (x : Ext E h E' h') (y : Ext E' h' E'' h'') : Ext E h E'' h'' :=
  ⟨x.le.trans y.le, fun b hb => (y.old b (Nat.lt_of_lt_of_le hb x.nxt)).trans (x.old b hb), Nat.le_trans x.nxt y.nxt,
    fun b hb he => (y.ghost b (Nat.lt_of_lt_of_le hb x.nxt) ((x.old b hb).trans he)).trans (x.ghost b hb he)⟩
end
end Go.AM
