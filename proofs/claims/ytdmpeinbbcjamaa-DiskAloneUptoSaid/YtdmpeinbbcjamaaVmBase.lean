/- The machine of values: what is used of the model itself. -/
import GoSem.Claims
import Derived.Calls
import Derived.Below
import Derived.Laws.IdiomCopy
import Derived.Laws.Cells
import Derived.Laws.StructEq
import Derived.ChangeKeysEq
import Derived.Laws.BytesString
import Derived.Recover
import Derived.Defers
import Derived.Orders
set_option linter.unusedVariables false
set_option linter.unusedSimpArgs false
namespace Go.VM
open Go.RowKit

/-- how far a slice may grow in its place: just so far, or to the end of its block, which nobody knows (elements of so many cells). -/
inductive Cp where
  | ex (c : Nat)
  | op (z : Nat)
  deriving DecidableEq, Inhabited

def Cp.most (len : Nat) : Cp → Nat
  | .op _ => len
  | .ex c => c

def lim : Nat := 4294967296

/-- ids below this are the package's variables: read, never written. -/
def glim : Nat := 1000

def slt : List Nat → List Nat → Bool
  | _, [] => false
  | [], _ :: _ => true
  | a :: x, b :: y => Nat.blt a b || (Nat.beq a b && slt x y)

def seq : List Nat → List Nat → Bool
  | [], [] => true
  | a :: x, b :: y => Nat.beq a b && seq x y
  | _, _ => false

theorem seq_iff : ∀ (a b : List Nat), seq a b = true ↔ a = b
  | [], [] => by simp [seq]
  | a :: x, b :: y => by
    simp only [seq, Bool.and_eq_true, seq_iff x y, List.cons.injEq]
    exact ⟨fun ⟨h, k⟩ => ⟨Nat.eq_of_beq_eq_true h, k⟩, fun ⟨h, k⟩ => ⟨by rw [h]; exact Nat.beq_refl b, k⟩⟩
  | [], _ :: _ => by simp [seq]
  | _ :: _, [] => by simp [seq]

structure Place where
  blk : Nat
  off : Nat
  ext : Nat

inductive All₂ {α β : Type} (R : α → β → Prop) : List α → List β → Prop where
  | nil : All₂ R [] []
  | cons {a : α} {b : β} {l : List α} {m : List β} (h : R a b) (t : All₂ R l m) : All₂ R (a :: l) (b :: m)

theorem All₂.mono {α β : Type} {R S : α → β → Prop} (h : ∀ a b, R a b → S a b) : ∀ {l : List α} {m : List β}, All₂ R l m → All₂ S l m
  | _, _, .nil => .nil
  | _, _, .cons r t => .cons (h _ _ r) (All₂.mono h t)

theorem All₂.length {α β : Type} {R : α → β → Prop} : ∀ {l : List α} {m : List β}, All₂ R l m → l.length = m.length
  | _, _, .nil => rfl
  | _, _, .cons r t => by simp [All₂.length t]

theorem All₂.append {α β : Type} {R : α → β → Prop} : ∀ {l l' : List α} {m m' : List β}, All₂ R l m → All₂ R l' m' → All₂ R (l ++ l') (m ++ m')
  | _, _, _, _, .nil, h => h
  | _, _, _, _, .cons r t, h => .cons r (All₂.append t h)

section
variable (P : Program)
def isAggT (t : TypeId) : Option Bool :=
  match P.underlying t with
  | some (.struct _) | some (.array _ _) => some true
  | some _ => some false
  | none => none

def szT (t : TypeId) : Option Nat := (P.info? t).map (·.size)

def places : List Field → Option (List (Nat × Nat))
  | [] => some []
  | f :: fs => match szT P f.type, places fs with
    | some n, some l => some ((f.offset, n) :: l)
    | _, _ => none

end
section
variable {P : Program}
theorem add_zero (B O i : Nat) : (⟨B, O, none⟩ : Addr).add i = ⟨B, O + i, none⟩ := by
  unfold Addr.add; split <;> simp_all

theorem cell_of {w : World} {B : Nat} {c : Array Value} {el : TypeId} {fz : Nat × Nat} (h : w.heap[B]? = some (.cells c el fz)) (i : Nat) :
    w.cell? ⟨B, i, none⟩ = c[i]? := by simp [World.cell?, h]

theorem frozen_of {w : World} {B : Nat} {c : Array Value} {el : TypeId} {lo hi : Nat} (h : w.heap[B]? = some (.cells c el (lo, hi))) (hf : ∀ i, i < c.size → ¬ (lo ≤ i ∧ i < hi)) (i : Nat) (hi' : i < c.size) :
    w.frozen? ⟨B, i, none⟩ = false := by
  have := hf i hi'
  simp only [World.frozen?, h]
  rw [Bool.eq_false_iff]
  intro hc
  simp only [Bool.and_eq_true, decide_eq_true_eq] at hc
  exact this hc

def writeAt (c : Array Value) : Nat → List Value → Array Value
  | _, [] => c
  | o, v :: r => writeAt (c.setIfInBounds o v) (o + 1) r

theorem writeAt_size : ∀ (vs : List Value) (c : Array Value) (o : Nat), (writeAt c o vs).size = c.size
  | [], _, _ => rfl
  | v :: r, c, o => by rw [writeAt, writeAt_size r]; simp

theorem writeAt_out : ∀ (vs : List Value) (c : Array Value) (o i : Nat), (i < o ∨ o + vs.length ≤ i) → (writeAt c o vs)[i]? = c[i]?
  | [], _, _, _, _ => rfl
  | v :: r, c, o, i, h => by
    rw [writeAt, writeAt_out r _ _ _ (by simp at h; omega), Array.getElem?_setIfInBounds]
    rw [if_neg (by simp at h; omega)]

theorem writeAt_in : ∀ (vs : List Value) (c : Array Value) (o j : Nat), j < vs.length → o + j < c.size → (writeAt c o vs)[o + j]? = vs[j]?
  | v :: r, c, o, 0, h, hs => by
    rw [writeAt, writeAt_out r _ _ _ (by omega), Array.getElem?_setIfInBounds]
    simp at hs
    simp [hs]
  | v :: r, c, o, j + 1, h, hs => by
    rw [writeAt, show o + (j + 1) = o + 1 + j from by omega, writeAt_in r _ _ j (by simpa using h) (by simp; omega)]
    simp

theorem setCell_heap {w : World} {B : Nat} {c : Array Value} {el : TypeId} {fz : Nat × Nat} (h : w.heap[B]? = some (.cells c el fz)) (o : Nat) (v : Value) :
    (w.setCell ⟨B, o, none⟩ v).heap[B]? = some (.cells (c.setIfInBounds o v) el fz) := by
  simp [World.setCell, Array.getElem?_modify, h]

theorem setCells_heap (B : Nat) : ∀ (vs : List Value) (w : World) (c : Array Value) (el : TypeId) (fz : Nat × Nat) (o : Nat), w.heap[B]? = some (.cells c el fz) →
    (w.setCells B o vs).heap[B]? = some (.cells (writeAt c o vs) el fz)
  | [], _, _, _, _, _, h => h
  | v :: r, w, c, el, fz, o, h => by
    rw [World.setCells, writeAt]
    exact setCells_heap B r _ _ _ _ _ (setCell_heap h o v)

theorem setCells_other (B : Nat) : ∀ (vs : List Value) (w : World) (o k : Nat), k ≠ B → (w.setCells B o vs).heap[k]? = w.heap[k]?
  | [], _, _, _, _ => rfl
  | v :: r, w, o, k, h => by
    rw [World.setCells, setCells_other B r _ _ _ h]
    simp [World.setCell, Array.getElem?_modify]
    intro e; exact absurd e.symm h

theorem setCells_rest (B : Nat) : ∀ (vs : List Value) (w : World) (o : Nat), (w.setCells B o vs).heap.size = w.heap.size ∧ (w.setCells B o vs).os = w.os ∧ (w.setCells B o vs).tape = w.tape ∧ (w.setCells B o vs).output = w.output
  | [], _, _ => ⟨rfl, rfl, rfl, rfl⟩
  | v :: r, w, o => by
    obtain ⟨a, b, c, d⟩ := setCells_rest B r (w.setCell ⟨B, o, none⟩ v) (o + 1)
    rw [World.setCells]
    refine ⟨a.trans ?_, b, c, d⟩
    simp [World.setCell]

def evT (tmps : Array Value) : Operand → Value
  | .tmp t => tmps.getD t undef
  | .const v => v
  | .global g => .pointer (some ⟨g, 0, none⟩)
  | .func f => .func (.func f) #[] #[]

theorem run_info {t : TypeId} {i : TypeInfo} (h : P.info? t = some i) (w : World) : (typeInfo t).run P w = .ok i w := run_typeInfo w h

theorem run_szT {t : TypeId} {n : Nat} (h : szT P t = some n) (w : World) : (sizeOf t).run P w = .ok n w := by
  unfold szT at h
  cases hi : P.info? t with
  | none => rw [hi] at h; cases h
  | some i => rw [hi] at h; cases h; simp [sizeOf, run_info hi]

theorem run_isAggT {t : TypeId} {b : Bool} (h : isAggT P t = some b) (w : World) : (isAgg t).run P w = .ok b w := by
  unfold isAggT at h
  cases hu : P.underlying t with
  | none => rw [hu] at h; cases h
  | some d => rw [hu] at h; cases d <;> cases h <;> simp [isAgg, run_underlying hu]

theorem str_inj {s t : List Nat} {x y : ByteArray} (hx : x.data.toList.map UInt8.toNat = s) (hy : y.data.toList.map UInt8.toNat = t) : (x.toList == y.toList) = seq s t := by
  rw [ByteArray.toList_eq, ByteArray.toList_eq, Bool.eq_iff_iff, seq_iff, beq_iff_eq, ← hx, ← hy]
  constructor
  · intro e; rw [e]
  · intro e
    exact (List.map_inj_right (fun a b h => UInt8.toNat_inj.1 h)).1 e

theorem str_lt : ∀ (x y : List UInt8), Op.bytesLess x y = slt (x.map UInt8.toNat) (y.map UInt8.toNat)
  | x, [] => by cases x <;> rfl
  | [], b :: y => rfl
  | a :: x, b :: y => by
    simp only [Op.bytesLess, List.map_cons, slt, str_lt x y]
    have e1 : decide (a < b) = Nat.blt a.toNat b.toNat := by
      rw [Bool.eq_iff_iff, decide_eq_true_eq, UInt8.lt_iff_toNat_lt, Nat.blt_eq]
    have e2 : (a == b) = Nat.beq a.toNat b.toNat := by
      rw [Bool.eq_iff_iff, beq_iff_eq, ← UInt8.toNat_inj, Nat.beq_eq]
    rw [e1, e2]

theorem run_sliceBound (w : World) (k : IntKind) (n y : Nat) (c : BoundsCode) (h : n ≤ y) : (Instr.sliceBound (.int k (n : Int)) y c).run P w = .ok n w := by
  have : (0 : Int) ≤ n ∧ (n : Int) ≤ y := by omega
  simp [Instr.sliceBound, asIntOf, this]

theorem extract_bytes (x : ByteArray) (l h : Nat) : (x.extract l h).data.toList.map UInt8.toNat = ((x.data.toList.map UInt8.toNat).drop l).take (h - l) := by
  rw [ByteArray.data_extract, Array.toList_extract]
  simp [List.extract, List.map_take, List.map_drop]

theorem foldl_writeAt (cs : Array Value) : ∀ (l : List Value) (off n : Nat), (l.zipIdx n).foldl (fun (cs : Array Value) (p : Value × Nat) => cs.setIfInBounds (off + p.2) p.1) cs = writeAt cs (off + n) l := by
  intro l
  induction l generalizing cs with
  | nil => intro off n; rfl
  | cons v l ih =>
    intro off n
    simp only [List.zipIdx_cons, List.foldl_cons, writeAt]
    rw [ih, Nat.add_assoc]

theorem places_sound {fs : List Field} {pl : List (Nat × Nat)} (w : World) : ∀ {fs : List Field} {pl : List (Nat × Nat)}, places P fs = some pl →
    (fs.mapM (m := Sem) fun f => do pure (f.offset, ← sizeOf f.type)).run P w = .ok pl w
  | [], pl, h => by simp [places] at h; subst h; rfl
  | f :: fs, pl, h => by
    simp only [places] at h
    split at h
    · rename_i n l h1 h2
      cases h
      have ih := places_sound (fs := fs) (pl := l) w h2
      rw [List.mapM_cons]
      simp only [Sem.run_bind, run_szT h1, Result.andThen_ok, Sem.run_pure]
      rw [ih]; rfl
    · cases h

theorem fold_push : ∀ (bs : List Nat) (s : ByteArray), (∀ n ∈ bs, n < 256) → ((bs.map fun n : Nat => (n : Int)).foldl (fun (r : ByteArray) (n : Int) => r.push (UInt8.ofNat n.toNat)) s).data.toList.map UInt8.toNat = s.data.toList.map UInt8.toNat ++ bs := by
  intro bs
  induction bs with
  | nil => intro s _; simp
  | cons n bs ih =>
    intro s h
    simp only [List.map_cons, List.foldl_cons]
    rw [ih _ (fun m hm => h m (List.mem_cons_of_mem _ hm))]
    have : n < 256 := h n (List.mem_cons_self ..)
    simp [ByteArray.push, UInt8.toNat_ofNat', Nat.mod_eq_of_lt this]

theorem wrap_small {n : Nat} (h : n ≤ 65536) : IntKind.i64.wrap (n : Int) = n := by
  simp [IntKind.wrap, IntKind.bits, IntKind.signed]; omega

theorem growBy_le : ∀ (r c nl : Nat), 256 ≤ c → Builtin.growBy nl r c ≤ c * 2 ^ r
  | 0, c, nl, h => by simp [Builtin.growBy]
  | r + 1, c, nl, h => by
    simp only [Builtin.growBy]
    split
    · exact Nat.le_mul_of_pos_right _ (Nat.two_pow_pos _)
    · refine Nat.le_trans (growBy_le r _ nl (by omega)) ?_
      rw [Nat.pow_succ, Nat.mul_comm (2 ^ r) 2, ← Nat.mul_assoc]
      exact Nat.mul_le_mul_right _ (by omega)

theorem nextcap_le {need cap : Nat} (h : cap < need) : Builtin.nextslicecap need cap ≤ 16 * need := by
  unfold Builtin.nextslicecap
  split
  · omega
  · split
    · omega
    · have := growBy_le 4 cap need (by omega); omega

theorem notInt {tx : TypeDesc} (h : ∀ k, tx ≠ .int k) : (tx matches .int _) = false := by cases tx <;> first | rfl | exact absurd rfl (h _)

theorem getObj_map {w : World} {B : Nat} {ents : Array MapEntry} {clock : Nat} (h : w.heap[B]? = some (.map ents clock)) : (getObj B).run P w = .ok (.map ents clock) w := by
  simp [getObj, Sem.run, h]

theorem setObj_map {w : World} {B : Nat} {ents : Array MapEntry} {clock : Nat} (h : w.heap[B]? = some (.map ents clock)) (o : Go.Obj) : (setObj B o).run P w = .ok () { w with heap := w.heap.setIfInBounds B o } := by
  simp [setObj, Sem.run, h]

end
section
variable {P : Program}
def mkF (b : Frame) (tmps : Array Value) (todo : List Item) (df : List Deferred) : Frame :=
  { fn := b.fn, tmps, todo, defers := df, mode := .run, kind := b.kind, roundOf := b.roundOf }

def putA (tmps : Array Value) : Option Nat → Value → Array Value
  | none, _ => tmps
  | some d, v => tmps.setIfInBounds d v

theorem mkF_eval (b : Frame) (tmps : Array Value) (todo : List Item) (df : List Deferred) : (mkF b tmps todo df).eval = evT tmps := by
  funext x; cases x <;> rfl

section
variable {b : Frame} {tmps : Array Value} {df : List Deferred} {k : List Item} {cs : List Frame} {w : World} {ops : Array Oper}

theorem st_skip : step P (lone (mkF b tmps (.code .skip :: k) df) cs w) = .next (lone (mkF b tmps k df) cs w) :=
  step_lone_go (by simp [stepG, stepG.exec, mkF])
theorem st_label {l : Nat} : step P (lone (mkF b tmps (.code (.label l) :: k) df) cs w) = .next (lone (mkF b tmps k df) cs w) :=
  step_lone_go (by simp [stepG, stepG.exec, mkF])
theorem st_inBlock {id : Nat} : step P (lone (mkF b tmps (.inBlock id :: k) df) cs w) = .next (lone (mkF b tmps k df) cs w) :=
  step_lone_go (by simp [stepG, stepG.exec, mkF])
theorem st_inScope {c : Code} : step P (lone (mkF b tmps (.inScope c :: k) df) cs w) = .next (lone (mkF b tmps k df) cs w) :=
  step_lone_go (by simp [stepG, stepG.exec, mkF])
theorem st_seq {x y : Code} : step P (lone (mkF b tmps (.code (.seq x y) :: k) df) cs w) = .next (lone (mkF b tmps (.code x :: .code y :: k) df) cs w) :=
  step_lone_go (by simp [stepG, stepG.exec, mkF])
theorem st_block {id : Nat} {c : Code} : step P (lone (mkF b tmps (.code (.block id c) :: k) df) cs w) = .next (lone (mkF b tmps (.code c :: .inBlock id :: k) df) cs w) :=
  step_lone_go (by simp [stepG, stepG.exec, mkF])
theorem st_scope {c : Code} : step P (lone (mkF b tmps (.code (.scope c) :: k) df) cs w) = .next (lone (mkF b tmps (.code c :: .inScope c :: k) df) cs w) :=
  step_lone_go (by simp [stepG, stepG.exec, mkF])
theorem st_loop {c : Code} : step P (lone (mkF b tmps (.code (.loop c) :: k) df) cs w) = .next (lone (mkF b tmps (.code c :: .inLoop c :: k) df) cs w) :=
  step_lone_go (by simp [stepG, stepG.exec, mkF])
theorem st_inLoop {c : Code} : step P (lone (mkF b tmps (.inLoop c :: k) df) cs w) = .next (lone (mkF b tmps (.code c :: .inLoop c :: k) df) cs w) :=
  step_lone_go (by simp [stepG, stepG.exec, mkF])
theorem st_cond {x : Operand} {c d : Code} {t : Bool} (h : evT tmps x = .bool t) :
    step P (lone (mkF b tmps (.code (.cond x c d) :: k) df) cs w) = .next (lone (mkF b tmps (.code (if t then c else d) :: k) df) cs w) :=
  step_lone_go (by
    have := congrFun (mkF_eval b tmps (.code (.cond x c d) :: k) df) x
    simp only [mkF] at this
    simp [stepG, stepG.exec, mkF, this, h])
theorem st_exit {id : Nat} {k' : List Item} (h : exitTo id k = some k') :
    step P (lone (mkF b tmps (.code (.exit id) :: k) df) cs w) = .next (lone (mkF b tmps k' df) cs w) :=
  step_lone_go (by simp [stepG, stepG.exec, mkF, h])
theorem st_region {id : Nat} : step P (lone (mkF b tmps (.code (.region id ops false) :: k) df) cs w) = .next (lone (mkF b tmps (.inRegion ops (List.range ops.size) :: k) df) cs w) :=
  step_lone_go (by simp [stepG, stepG.exec, mkF])
theorem st_draw {id : Nat} : step P (lone (mkF b tmps (.code (.region id ops true) :: k) df) cs w) =
    .next (lone (mkF b tmps (.inRegion ops (Region.schedule (P.follows .mixedOrders) ops (w.tape w.drawn (.order b.fn id))) :: k) df) cs { w with drawn := w.drawn + 1 }) :=
  step_lone_go (by simp [stepG, stepG.exec, mkF, choose, Sem.run, Question.forced, Question.cut])
theorem st_end : step P (lone (mkF b tmps (.inRegion ops [] :: k) df) cs w) = .next (lone (mkF b tmps k df) cs w) :=
  step_lone_go (by simp [stepG, stepG.exec, mkF])

theorem finish_mkF (i : Nat) (rest : List Nat) (v : Value) : (mkF b tmps (.inRegion ops (i :: rest) :: k) df).finish v = mkF b (putA tmps ((ops[i]?).bind (·.dst)) v) (.inRegion ops rest :: k) df := by
  cases h : (ops[i]?).bind (·.dst) <;> simp [Frame.finish, mkF, putA, h]

theorem raise_mkF (todo : List Item) (ch : List PanicEntry) : (mkF b tmps todo df).raise ch = { mkF b tmps todo df with mode := .panicking ch } := rfl

theorem st_op_skip {i : Nat} {rest : List Nat} {o : Oper} (ho : ops[i]? = some o) (h : Region.wanted o (yielded ops tmps) = false) :
    step P (lone (mkF b tmps (.inRegion ops (i :: rest) :: k) df) cs w) = .next (lone (mkF b (putA tmps o.dst undef) (.inRegion ops rest :: k) df) cs w) := by
  have := finish_mkF (b := b) (tmps := tmps) (ops := ops) (k := k) (df := df) i rest undef
  rw [ho] at this
  simp only [Option.bind_some] at this
  rw [← this]
  exact step_lone_go (by simp only [mkF] at *; simp [stepG, stepG.exec, ho, h])

theorem stepG_opF {i : Nat} {rest : List Nat} {o : Oper} (ho : ops[i]? = some o) (hw : Region.wanted o (yielded ops tmps) = true) (hd : b.roundOf = none ∨ ∀ c, o.op ≠ .defer c) :
    stepG P true { frame := mkF b tmps (.inRegion ops (i :: rest) :: k) df, callers := cs, status := .running, dying := none } w =
      stepG.apply P true (mkF b tmps (.inRegion ops (i :: rest) :: k) df) cs none (execOp (evT tmps) o) w := by
  have he := mkF_eval b tmps (.inRegion ops (i :: rest) :: k) df
  simp only [mkF] at he
  rcases hd with hd | hd
  · rw [hd] at he
    simp [stepG, stepG.exec, stepG.oper, Frame.oper?, mkF, ho, hw, he, hd]
  · have : ∀ (r : Option Nat), (match r, o.op with
      | some l, .defer c => stepG.apply P true (mkF b tmps (.inRegion ops (i :: rest) :: k) df) cs none (do Instr.deferInRound l (← resolve (evT tmps) c o.type); pure .skip) w
      | _, _ => stepG.apply P true (mkF b tmps (.inRegion ops (i :: rest) :: k) df) cs none (execOp (evT tmps) o) w) = stepG.apply P true (mkF b tmps (.inRegion ops (i :: rest) :: k) df) cs none (execOp (evT tmps) o) w := by
      intro r
      cases r with
      | none => rfl
      | some l =>
        cases hop : o.op <;> first | rfl | exact absurd hop (hd _)
    have := this b.roundOf
    simp only [mkF] at this
    simp [stepG, stepG.exec, stepG.oper, Frame.oper?, mkF, ho, hw, he]
    exact this

theorem st_val {i : Nat} {rest : List Nat} {o : Oper} {v : Value} {w' : World} (ho : ops[i]? = some o) (hw : Region.wanted o (yielded ops tmps) = true) (hd : b.roundOf = none ∨ ∀ c, o.op ≠ .defer c)
    (hr : (execOp (evT tmps) o).run P w = .ok (.value v) w') :
    step P (lone (mkF b tmps (.inRegion ops (i :: rest) :: k) df) cs w) = .next (lone (mkF b (putA tmps o.dst v) (.inRegion ops rest :: k) df) cs w') := by
  have := finish_mkF (b := b) (tmps := tmps) (ops := ops) (k := k) (df := df) i rest v
  rw [ho] at this
  simp only [Option.bind_some] at this
  rw [← this]
  exact step_lone_go (by rw [stepG_opF ho hw hd]; simp [stepG.apply, hr, mkF])

theorem st_skipv {i : Nat} {rest : List Nat} {o : Oper} {w' : World} (ho : ops[i]? = some o) (hw : Region.wanted o (yielded ops tmps) = true) (hd : b.roundOf = none ∨ ∀ c, o.op ≠ .defer c)
    (hr : (execOp (evT tmps) o).run P w = .ok .skip w') :
    step P (lone (mkF b tmps (.inRegion ops (i :: rest) :: k) df) cs w) = .next (lone (mkF b (putA tmps o.dst undef) (.inRegion ops rest :: k) df) cs w') := by
  have := finish_mkF (b := b) (tmps := tmps) (ops := ops) (k := k) (df := df) i rest undef
  rw [ho] at this
  simp only [Option.bind_some] at this
  rw [← this]
  exact step_lone_go (by rw [stepG_opF ho hw hd]; simp [stepG.apply, hr, mkF])

theorem st_pan {i : Nat} {rest : List Nat} {o : Oper} {v : Value} {w' : World} (ho : ops[i]? = some o) (hw : Region.wanted o (yielded ops tmps) = true) (hd : b.roundOf = none ∨ ∀ c, o.op ≠ .defer c)
    (hr : (execOp (evT tmps) o).run P w = .halt (.panic v) w') :
    step P (lone (mkF b tmps (.inRegion ops (i :: rest) :: k) df) cs w) = .next (lone { mkF b tmps (.inRegion ops (i :: rest) :: k) df with mode := .panicking [{ v, recovered := false }] } cs w') := by
  rw [← raise_mkF]
  exact step_lone_go (by rw [stepG_opF ho hw hd]; simp [stepG.apply, hr, mkF])

theorem st_enter {i : Nat} {rest : List Nat} {o : Oper} {f : FuncId} {args : Array Value} {w' : World} (ho : ops[i]? = some o) (hw : Region.wanted o (yielded ops tmps) = true) (hd : b.roundOf = none ∨ ∀ c, o.op ≠ .defer c)
    (hr : (execOp (evT tmps) o).run P w = .ok (.enter f args) w') :
    step P (lone (mkF b tmps (.inRegion ops (i :: rest) :: k) df) cs w) = .next (lone (Frame.enter P f args .normal) (mkF b tmps (.inRegion ops (i :: rest) :: k) df :: cs) w') :=
  step_lone_go (by rw [stepG_opF ho hw hd]; simp [stepG.apply, hr, mkF])

theorem st_round {i : Nat} {rest : List Nat} {o : Oper} {l : Nat} {f : FuncId} {ts : Array Value} {as bd : Code} {w' : World} (ho : ops[i]? = some o) (hw : Region.wanted o (yielded ops tmps) = true) (hd : b.roundOf = none ∨ ∀ c, o.op ≠ .defer c)
    (hr : (execOp (evT tmps) o).run P w = .ok (.round l f ts as bd) w') :
    step P (lone (mkF b tmps (.inRegion ops (i :: rest) :: k) df) cs w) = .next (lone (Frame.round l f ts as bd .normal) (mkF b tmps (.inRegion ops (i :: rest) :: k) df :: cs) w') :=
  step_lone_go (by rw [stepG_opF ho hw hd]; simp [stepG.apply, hr, mkF])

theorem st_defer {i : Nat} {rest : List Nat} {o : Oper} {d : Deferred} {w' : World} (ho : ops[i]? = some o) (hw : Region.wanted o (yielded ops tmps) = true) (hd : b.roundOf = none)
    (hr : (execOp (evT tmps) o).run P w = .ok (.defer d) w') :
    step P (lone (mkF b tmps (.inRegion ops (i :: rest) :: k) df) cs w) = .next (lone (mkF b (putA tmps o.dst undef) (.inRegion ops rest :: k) (d :: df)) cs w') := by
  have := finish_mkF (b := b) (tmps := tmps) (ops := ops) (k := k) (df := d :: df) i rest undef
  rw [ho] at this
  simp only [Option.bind_some] at this
  rw [← this]
  exact step_lone_go (by rw [stepG_opF ho hw (.inl hd)]; simp [stepG.apply, hr, mkF])

theorem st_recover {i : Nat} {rest : List Nat} {o : Oper} {w' : World} (ho : ops[i]? = some o) (hw : Region.wanted o (yielded ops tmps) = true) (hd : b.roundOf = none)
    (hr : (execOp (evT tmps) o).run P w = .ok .recover w') :
    step P (lone (mkF b tmps (.inRegion ops (i :: rest) :: k) df) cs w) =
      match tryRecover (mkF b tmps (.inRegion ops (i :: rest) :: k) df) cs with
      | some (v, cs') => .next (lone (mkF b (putA tmps o.dst v) (.inRegion ops rest :: k) df) cs' w')
      | none => .next (lone (mkF b (putA tmps o.dst .nilIface) (.inRegion ops rest :: k) df) cs w') := by
  have h1 := fun v => finish_mkF (b := b) (tmps := tmps) (ops := ops) (k := k) (df := df) i rest v
  rw [ho] at h1
  simp only [Option.bind_some] at h1
  split
  · rename_i v cs' htr
    rw [← h1]
    refine step_lone_go ?_
    rw [stepG_opF ho hw (.inl hd)]
    simp only [mkF] at htr
    simp [stepG.apply, hr, mkF, hd]
    rw [hd] at htr
    simp [htr]
  · rename_i htr
    rw [← h1]
    refine step_lone_go ?_
    rw [stepG_opF ho hw (.inl hd)]
    simp only [mkF] at htr
    simp [stepG.apply, hr, mkF, hd]
    rw [hd] at htr
    simp [htr]
end

theorem run_callFunc {P : Program} {f : FuncId} {fn : Func} (hf : P.funcs[f]? = some fn) (hb : fn.body.isSome = true) (hn : (fn.name == "runtime.NumGoroutine") = false) (args : Array Value) (w : World) :
    (callFunc f args).run P w = .ok (.enter f args) w := by
  have hb' : fn.body.isNone = false := by rw [← Option.not_isSome, hb]; rfl
  simp only [callFunc, Sem.run_bind, run_program, Result.andThen_ok, hf, hn, Bool.false_eq_true, if_false, hb', Sem.run_pure]

theorem exec_call {P : Program} {dst : Option Tmp} {c : Go.Call} {f : Operand} {ty : TypeId} {pos : String} {after : Array Edge} {guard : Option (Nat × Bool)} {args : Array Operand} {argTypes : Array TypeId} {ρ : Operand → Value} {fv : Fn} {fi cp : Array Value} (h : ρ f = .func fv fi cp) (w : World) :
    (execOp ρ ⟨dst, .call ⟨.value f, args, argTypes⟩, ty, pos, after, guard⟩).run P w = (invoke (.fn fv cp) (fi ++ args.map ρ)).run P w := by
  simp only [execOp, resolve, h, Deferred.ofValue, Sem.run_bind, Sem.run_pure, Result.andThen_ok]

def idxB (c : Nat) : List Nat → Nat → Option Nat
  | [], _ => none
  | b :: r, i => match Nat.beq b c with
    | true => some i
    | false => idxB c r (i + 1)

theorem find_idx {c : Nat} (hc : c < 256) : ∀ (l : List UInt8) (s : Nat) (f : Nat → UInt8), (∀ (i : Nat) (h : i < l.length), f (s + i) = l[i]) →
    (List.range' s l.length).find? (fun i => f i == UInt8.ofNat c) = idxB c (l.map UInt8.toNat) s
  | [], s, f, h => rfl
  | a :: l, s, f, h => by
    have h0 : f s = a := h 0 (by simp)
    have hb : (a == UInt8.ofNat c) = Nat.beq a.toNat c := by
      rw [Bool.eq_iff_iff, beq_iff_eq, ← UInt8.toNat_inj, Nat.beq_eq, UInt8.toNat_ofNat', Nat.mod_eq_of_lt hc]
    have ih := find_idx hc l (s + 1) f (fun i hi => by
      have := h (i + 1) (by simpa using hi)
      simpa [Nat.add_assoc, Nat.add_comm 1 i] using this)
    simp only [List.length_cons, List.range'_succ, List.find?_cons, List.map_cons, idxB, h0, hb]
    cases Nat.beq a.toNat c
    · exact ih
    · rfl

theorem exec_builtin {P : Program} {dst : Option Tmp} {bi : Builtin} {ty : TypeId} {pos : String} {after : Array Edge} {guard : Option (Nat × Bool)} {args : Array Operand} {argTypes : Array TypeId} {ρ : Operand → Value} (w : World) :
    (execOp ρ ⟨dst, .call ⟨.builtin bi, args, argTypes⟩, ty, pos, after, guard⟩).run P w = (builtin bi argTypes ty (args.map fun | .const _ => true | _ => false) (args.map ρ)).run P w := by
  simp only [execOp, resolve, Sem.run_bind, Sem.run_pure, Result.andThen_ok, invoke]
  rfl

theorem arr_of {args : Array Operand} {ρ : Operand → Value} {l : List Value} (h : args.toList.map ρ = l) : args.map ρ = l.toArray := by
  apply Array.toList_inj.1; simpa using h

theorem val_run {P : Program} {s : Sem Value} {v : Value} {w w' : World} (h : s.run P w = .ok v w') : (do pure (Next.value (← s)) : Sem Next).run P w = .ok (.value v) w' := by simp [h]

theorem exitTo_code (id : Nat) (c : Code) (k : List Item) : exitTo id (.code c :: k) = exitTo id k := rfl

theorem exitTo_inLoop (id : Nat) (c : Code) (k : List Item) : exitTo id (.inLoop c :: k) = exitTo id k := rfl

theorem exitTo_inScope (id : Nat) (c : Code) (k : List Item) : exitTo id (.inScope c :: k) = exitTo id k := rfl

theorem exitTo_inBlock (id i : Nat) (k : List Item) : exitTo id (.inBlock i :: k) = if i == id then some k else exitTo id k := rfl

end
section
variable {P : Program}
section
variable {b : Frame} {tmps : Array Value} {df : List Deferred} {k : List Item} {cs : List Frame} {w : World}

theorem st_rangeFunc {f : Operand} {ps : Array Tmp} {as bd : Code} {g : FuncId} {fi cp : Array Value} {fn : Func} (hro : b.roundOf = none) (hf : evT tmps f = .func (.func g) fi cp) (hfn : P.funcs[g]? = some fn) (hb : fn.body.isSome = true) (hn : (fn.name == "runtime.NumGoroutine") = false) :
    step P (lone (mkF b tmps (.code (.rangeFunc f ps as bd) :: k) df) cs w) =
      .next (lone (Frame.enter P g ((fi ++ #[.func (.yield (w.heap.size + 1)) #[] #[]]) ++ cp) .normal) (mkF b tmps (.inRangeFunc (w.heap.size + 1) :: k) ({ target := .collected w.heap.size, args := #[] } :: df) :: cs)
        { w with heap := (w.heap.push (.deferred (some []))).push (.loop { state := .ready, pending := none, fn := b.fn, tmps, params := ps, assign := as, body := bd, defers := w.heap.size }) }) := by
  have he := mkF_eval b tmps (.inRangeFunc (w.heap.size + 1) :: k) ({ target := .collected w.heap.size, args := #[] } :: df)
  have hcf := run_callFunc (P := P) hfn hb hn
  have hrs : ∀ w' : World, (resolve (evT tmps) { callee := .value f, args := #[.const (.func (.yield (w.heap.size + 1)) #[] #[])], argTypes := #[] } 0).run P w' = .ok { target := .fn (.func g) cp, args := fi ++ #[.func (.yield (w.heap.size + 1)) #[] #[]] } w' := by
    intro w'
    simp only [resolve, hf, Deferred.ofValue, Sem.run_pure]
    congr 2
    congr 1
    simp [evT]
  have hinv : ∀ w' : World, (invoke (.fn (.func g) cp) (fi ++ #[.func (.yield (w.heap.size + 1)) #[] #[]])).run P w' = .ok (.enter g ((fi ++ #[.func (.yield (w.heap.size + 1)) #[] #[]]) ++ cp)) w' := by
    intro w'
    simp only [invoke]; exact hcf _ _
  simp only [mkF, hro] at he
  refine step_lone_go ?_
  simp [stepG, stepG.exec, mkF, hro, Instr.enterLoop, stepG.apply, he, hrs, hinv, -Array.append_singleton, -Array.push_append]
  rfl

theorem st_endRange {l : Nat} {jump : Option Code} {w' : World} (h : (Instr.endLoop l).run P w = .ok jump w') :
    step P (lone (mkF b tmps (.endRangeFunc l :: k) df) cs w) = .next (lone (mkF b tmps ((jump.map Item.code).toList ++ k) df) cs w') :=
  step_lone_go (by simp [stepG, stepG.exec, mkF, h])
end

theorem getObj_loop {w : World} {B : Nat} {L : Loop} (h : w.heap[B]? = some (.loop L)) : (getObj B).run P w = .ok (.loop L) w := by simp [getObj, Sem.run, h]
theorem setObj_any {w : World} {B : Nat} {ob : Go.Obj} (h : w.heap[B]? = some ob) (hc : ∀ c e f, ob ≠ .cells c e f) (o : Go.Obj) : (setObj B o).run P w = .ok () { w with heap := w.heap.setIfInBounds B o } := by
  cases ob <;> first | exact absurd rfl (hc _ _ _) | simp [setObj, Sem.run, h]


theorem set_same {w : World} {B : Nat} {co co' : Go.Obj} (h : w.heap[B]? = some co) : (w.heap.setIfInBounds B co')[B]? = some co' := by
  have : B < w.heap.size := (Array.getElem?_eq_some_iff.1 h).1
  simp [this]

theorem push_last (h : Array Go.Obj) (x : Go.Obj) : (h.push x)[h.size]? = some x := by simp

/-! ### calls, and leaving a function -/
section
variable {b : Frame} {tmps : Array Value} {df : List Deferred} {k : List Item} {cs : List Frame} {w : World}
theorem st_fall (hro : b.roundOf = none) : step P (lone (mkF b tmps [] df) cs w) = .next (lone { mkF b tmps [] df with mode := .returning } cs w) :=
  step_lone_go (by simp [stepG, stepG.exec, mkF, hro])
theorem st_ret (hro : b.roundOf = none) : step P (lone (mkF b tmps (.code .ret :: k) df) cs w) = .next (lone { mkF b tmps (.code .ret :: k) df with mode := .returning } cs w) :=
  step_lone_go (by simp [stepG, stepG.exec, mkF, hro])
end


def resF (tmps : Array Value) : ResultVar → Sem Value
  | .tmp t => pure (tmps.getD t undef)
  | .cell a t => do loadVar t (← asAddr (tmps.getD a undef))

theorem resF_tmp (tmps : Array Value) (t : Nat) (w : World) : (resF tmps (.tmp t)).run P w = .ok (tmps.getD t undef) w := rfl

theorem resF_cell {tmps : Array Value} {a : Nat} {t : TypeId} {A : Addr} (h : tmps.getD a undef = .pointer (some A)) (w : World) : (resF tmps (.cell a t)).run P w = (loadVar t A).run P w := by
  simp only [resF, h, asAddr, Sem.run_bind, Sem.run_pure, Result.andThen_ok]

theorem st_collected {fr : Frame} {cs : List Frame} {w w' : World} {blk : Nat} {args : Array Value} {ds calls : List Deferred} (hm : fr.mode ≠ .run) (hd : fr.defers = { target := .collected blk, args } :: ds) (h : (Instr.takeDeferred blk).run P w = .ok calls w') :
    step P (lone fr cs w) = .next (lone { fr with defers := calls ++ ds } cs w') := by
  refine step_lone_go ?_
  cases hmode : fr.mode with
  | run => exact absurd hmode hm
  | returning => simp [stepG, unwind, hmode, hd, h]
  | panicking chain => simp [stepG, unwind, hmode, hd, h]

section
variable {b : Frame} {tmps : Array Value} {k : List Item} {c : Frame} {cs : List Frame} {w w' : World} {L : Nat}
theorem st_begin (hro : b.roundOf = some L) (h : (Instr.beginRound L).run P w = .ok () w') : step P (lone (mkF b tmps (.beginRound :: k) []) cs w) = .next (lone (mkF b tmps k []) cs w') :=
  step_lone_go (by simp [stepG, stepG.exec, mkF, hro, stepG.apply, h, Frame.finish])

theorem st_over {j : Option Code} {v : Value} {todo : List Item} (hro : b.roundOf = some L) (hk : b.kind = .normal) (h : (Instr.endRound L j).run P w = .ok v w')
    (ht : (j = none ∧ todo = []) ∨ (j = some .ret ∧ ∃ k, todo = .code .ret :: k) ∨ ∃ id k, j = some (.exit id) ∧ todo = .code (.exit id) :: k ∧ exitTo id k = none) :
    step P (lone (mkF b tmps todo []) (c :: cs) w) = .next (lone (c.finish v) cs w') := by
  refine step_lone_go ?_
  rcases ht with ⟨rfl, rfl⟩ | ⟨rfl, k, rfl⟩ | ⟨id, k, rfl, rfl, he⟩
  · simp [stepG, stepG.exec, mkF, hro, hk, h, doReturn]
  · simp [stepG, stepG.exec, mkF, hro, hk, h, doReturn]
  · simp [stepG, stepG.exec, mkF, hro, hk, h, doReturn, he]

theorem st_round_pan {ch : List PanicEntry} {fn : Func} (hf : P.funcs[b.fn]? = some fn) : step P (lone { mkF b tmps k [] with mode := .panicking ch } (c :: cs) w) = .next (lone (c.raise ch) cs w) :=
  step_lone_go (by simp [stepG, unwind, mkF, Frame.catches, hf])

end
end
section
variable {P : Program}
/-- 0: pure, 1: reads, 2: makes memory, 3: stores, 4: all else. -/
def cls (P : Program) (o : Oper) : Nat :=
  match o.op with
  | .move _ | .assign _ | .pick _ _ _ | .build _ _ | .nilCheck _ | .binOp _ _ _ _ _ | .unOp _ _ _ | .makeInterface _ _ | .makeFunc _ _ _
  | .slice _ _ _ _ _ | .fieldAddr _ _ _ | .field _ _ _ | .indexAddr _ _ _ | .index _ _ _ | .typeAssert _ _ _ _ | .extract _ _ => 0
  | .load _ _ | .lookup _ _ _ _ => 1
  | .convert s d _ => match P.underlying d with
    | some (.slice _) => 2
    | _ => match P.underlying s with
      | some (.slice _) => 1
      | _ => 0
  | .call { callee := .builtin b, .. } => match b with
    | .len => 1
    | .cap | .max | .min => 0
    | _ => 4
  | .alloc _ | .box _ _ | .buildSlice _ _ _ | .makeMap _ _ | .makeSlice _ _ _ => 2
  | .store _ _ _ => 3
  | _ => 4

def ancOf (acc : List Nat) (es : List Edge) : Nat :=
  match es with
  | [] => 0
  | e :: es => if Region.binds .any e then 2 ^ e.on ||| acc.getD e.on 0 ||| ancOf acc es else ancOf acc es

def ancs : List Oper → List Nat → List Nat
  | [], acc => acc
  | o :: os, acc => ancs os (acc ++ [ancOf acc o.after.toList])

structure It where
  i : Nat
  o : Oper
  c : Nat
  anc : Nat
  lo : Nat

def heavyBits (P : Program) : List Oper → Nat → List Nat
  | [], _ => []
  | o :: os, i => match Nat.ble 3 (cls P o) with
    | true => i :: heavyBits P os (i + 1)
    | false => heavyBits P os (i + 1)

def countBits (an : Nat) : List Nat → Nat
  | [] => 0
  | h :: hs => match an.testBit h with
    | true => countBits an hs + 1
    | false => countBits an hs

def mkIts (P : Program) (hs : List Nat) : List Oper → List Nat → Nat → List It
  | o :: os, an :: as, i => ⟨i, o, cls P o, an, countBits an hs⟩ :: mkIts P hs os as (i + 1)
  | _, _, _ => []

def items (P : Program) (ops : List Oper) : List It :=
  mkIts P (heavyBits P ops 0) ops (ancs ops []) 0

def cmpb (x y : It) : Bool := x.anc.testBit y.i || y.anc.testBit x.i

def tmpsOf (ops : Array Oper) (o : Oper) : List Nat :=
  o.op.operands.toList.filterMap (fun | .tmp t => some t | _ => none) ++
  (match o.guard with | some (j, _) => ((ops[j]?).bind (·.dst)).toList | none => [])

/-- what holds of a region by its text: edges point back; writers and readers of a slot are in order. -/
def slotOk (ops : Array Oper) (its : List It) : Bool :=
  its.all fun x => its.all fun y => Nat.beq x.i y.i || cmpb x y ||
    !(match y.o.dst with | some d => (tmpsOf ops x.o).contains d || x.o.dst == some d | none => false)

def backOk (its : List It) : Bool := its.all fun x => x.o.after.toList.all fun e => !Region.binds .any e || Nat.blt e.on x.i

theorem ancOf_bit {acc : List Nat} {j : Nat} : ∀ {es : List Edge}, (ancOf acc es).testBit j = true → ∃ e ∈ es, Region.binds .any e = true ∧ (j = e.on ∨ (acc.getD e.on 0).testBit j = true)
  | [], h => by simp [ancOf] at h
  | e :: es, h => by
    simp only [ancOf] at h
    split at h
    · rename_i hb
      rw [Nat.testBit_or, Nat.testBit_or, Bool.or_eq_true, Bool.or_eq_true] at h
      rcases h with (h | h) | h
      · rw [Nat.testBit_two_pow] at h
        exact ⟨e, List.mem_cons_self .., hb, .inl (of_decide_eq_true h).symm⟩
      · exact ⟨e, List.mem_cons_self .., hb, .inr h⟩
      · obtain ⟨e', h1, h2, h3⟩ := ancOf_bit h
        exact ⟨e', List.mem_cons_of_mem _ h1, h2, h3⟩
    · obtain ⟨e', h1, h2, h3⟩ := ancOf_bit h
      exact ⟨e', List.mem_cons_of_mem _ h1, h2, h3⟩

theorem ancs_spec : ∀ (os : List Oper) (acc : List Nat), ∃ A, ancs os acc = acc ++ A ∧ A.length = os.length ∧ ∀ (k : Nat) (o : Oper), os[k]? = some o → A[k]? = some (ancOf (acc ++ A.take k) o.after.toList)
  | [], acc => ⟨[], by simp [ancs], rfl, by simp⟩
  | o :: os, acc => by
    obtain ⟨A, h1, h2, h3⟩ := ancs_spec os (acc ++ [ancOf acc o.after.toList])
    refine ⟨ancOf acc o.after.toList :: A, by simp [ancs, h1], by simp [h2], fun k o' hk => ?_⟩
    cases k with
    | zero => simp at hk; subst hk; simp
    | succ k => simpa using h3 k o' (by simpa using hk)

theorem mkIts_spec (hs : List Nat) : ∀ (os : List Oper) (as : List Nat) (i : Nat), os.length = as.length →
    ∀ (k : Nat) (o : Oper) (an : Nat), os[k]? = some o → as[k]? = some an → (mkIts P hs os as i)[k]? = some ⟨i + k, o, cls P o, an, countBits an hs⟩
  | [], _, _, _, k, o, an, h, _ => by simp at h
  | o :: os, [], _, hl, _, _, _, _, _ => by simp at hl
  | o :: os, a :: as, i, hl, 0, o', an, h, g => by simp at h g; subst h; subst g; simp [mkIts]
  | o :: os, a :: as, i, hl, k + 1, o', an, h, g => by
    have := mkIts_spec hs os as (i + 1) (by simpa using hl) k o' an (by simpa using h) (by simpa using g)
    simp only [mkIts, List.getElem?_cons_succ, this]
    congr 2; omega

theorem mkIts_mem (hs : List Nat) : ∀ (os : List Oper) (as : List Nat) (i : Nat) (it : It), it ∈ mkIts P hs os as i → ∃ k, os[k]? = some it.o ∧ as[k]? = some it.anc ∧ it.i = i + k ∧ it.c = cls P it.o
  | [], _, _, it, h => by simp [mkIts] at h
  | o :: os, [], _, it, h => by simp [mkIts] at h
  | o :: os, a :: as, i, it, h => by
    simp only [mkIts, List.mem_cons] at h
    rcases h with rfl | h
    · exact ⟨0, rfl, rfl, rfl, rfl⟩
    · obtain ⟨k, h1, h2, h3, h4⟩ := mkIts_mem hs os as (i + 1) it h
      exact ⟨k + 1, by simpa using h1, by simpa using h2, by omega, h4⟩

/-- what holds of a region's items. -/
structure ItsOk (P : Program) (ops : Array Oper) (its : List It) : Prop where
  op : ∀ it ∈ its, ops[it.i]? = some it.o
  cl : ∀ it ∈ its, it.c = cls P it.o
  all : ∀ i, i < ops.size → ∃ it ∈ its, it.i = i
  uniq : ∀ a ∈ its, ∀ b ∈ its, a.i = b.i → a = b ∨ (a.o = b.o ∧ a.anc = b.anc ∧ a.c = b.c)
  anc : ∀ it ∈ its, ∀ j, it.anc.testBit j = true → ∃ e ∈ it.o.after.toList, Region.binds .any e = true ∧ (j = e.on ∨ ∃ it2 ∈ its, it2.i = e.on ∧ it2.i < it.i ∧ it2.anc.testBit j = true)

theorem items_ok (ops : Array Oper) : ItsOk P ops (items P ops.toList) := by
  obtain ⟨A, h1, h2, h3⟩ := ancs_spec ops.toList []
  have hA : ancs ops.toList [] = A := by simpa using h1
  have hl : ops.toList.length = A.length := h2.symm
  unfold items
  rw [hA]
  generalize heavyBits P ops.toList 0 = hs
  have mem := mkIts_mem (P := P) hs ops.toList A 0
  refine ⟨fun it hit => ?_, fun it hit => ?_, fun i hi => ?_, fun a ha b hb hab => ?_, fun it hit j hj => ?_⟩
  · obtain ⟨k, g1, g2, g3, g4⟩ := mem it hit
    rw [g3, Nat.zero_add]; simpa using g1
  · obtain ⟨k, g1, g2, g3, g4⟩ := mem it hit; exact g4
  · obtain ⟨o, ho⟩ : ∃ o, ops.toList[i]? = some o := ⟨ops.toList[i]'(by simpa using hi), by simp [hi]⟩
    have := mkIts_spec (P := P) hs ops.toList A 0 hl i o _ ho (h3 i o ho)
    exact ⟨_, List.mem_of_getElem? this, by simp⟩
  · obtain ⟨k, g1, g2, g3, g4⟩ := mem a ha
    obtain ⟨k', g1', g2', g3', g4'⟩ := mem b hb
    have : k = k' := by omega
    subst this
    rw [g1] at g1'; rw [g2] at g2'
    have e1 := Option.some.inj g1'
    have e2 := Option.some.inj g2'
    exact .inr ⟨e1, e2, by rw [g4, g4', e1]⟩
  · obtain ⟨k, g1, g2, g3, g4⟩ := mem it hit
    have := h3 k it.o g1
    rw [g2] at this
    have e := Option.some.inj this
    rw [e] at hj
    obtain ⟨ed, q1, q2, q3⟩ := ancOf_bit hj
    refine ⟨ed, q1, q2, ?_⟩
    rcases q3 with q3 | q3
    · exact .inl q3
    · refine .inr ?_
      rw [List.nil_append, List.getD_eq_getElem?_getD, List.getElem?_take] at q3
      split at q3
      · rename_i hlt
        cases hA2 : A[ed.on]? with
        | none => rw [hA2] at q3; simp at q3
        | some an =>
          rw [hA2] at q3
          have hlt2 : ed.on < A.length := (List.getElem?_eq_some_iff.1 hA2).1
          obtain ⟨o2, ho2⟩ : ∃ o, ops.toList[ed.on]? = some o := ⟨ops.toList[ed.on]'(by omega), by simp⟩
          have := mkIts_spec (P := P) hs ops.toList A 0 hl ed.on o2 an ho2 hA2
          exact ⟨_, List.mem_of_getElem? this, by simp, by simp; omega, by simpa using q3⟩
      · simp at q3

/-- all that an item hangs on is done, if what its edges name is, and what is done is closed. -/
theorem anc_in {ops : Array Oper} {its : List It} (ok : ItsOk P ops its) {I : Nat → Bool} (dc : ∀ it ∈ its, I it.i = true → ∀ e ∈ it.o.after.toList, Region.binds .any e = true → I e.on = true) :
    ∀ (n : Nat) (it : It), it.i < n → it ∈ its → (∀ e ∈ it.o.after.toList, Region.binds .any e = true → I e.on = true) → ∀ j, it.anc.testBit j = true → I j = true := by
  intro n
  induction n with
  | zero => intro it h; omega
  | succ n ih =>
    intro it hn hit he j hj
    obtain ⟨e, h1, h2, h3⟩ := ok.anc it hit j hj
    rcases h3 with rfl | ⟨it2, q1, q2, q3, q4⟩
    · exact he e h1 h2
    · exact ih it2 (by omega) q1 (dc it2 q1 (by rw [q2]; exact he e h1 h2)) j q4

theorem slot_spec {ops : Array Oper} {its : List It} (h : slotOk ops its = true) {x y : It} (hx : x ∈ its) (hy : y ∈ its) (hne : x.i ≠ y.i) {t : Nat} (hd : y.o.dst = some t) (hr : t ∈ tmpsOf ops x.o ∨ x.o.dst = some t) :
    x.anc.testBit y.i = true ∨ y.anc.testBit x.i = true := by
  unfold slotOk at h
  have := List.all_eq_true.1 (List.all_eq_true.1 h x hx) y hy
  simp only [hd, Bool.or_eq_true, Bool.not_eq_true', cmpb] at this
  rcases this with (h1 | h1) | h1
  · exact absurd h1 (by first | (intro q; exact hne (Nat.eq_of_beq_eq_true q)) | (intro q; exact hne (Nat.eq_of_beq_eq_true q).symm) | (intro q; exact hne (eq_of_beq q)) | (intro q; exact hne (eq_of_beq q).symm) | (simpa using hne) | (intro q; exact hne (by simpa using q)))
  · exact h1
  · exfalso
    rw [Bool.or_eq_false_iff] at h1
    rcases hr with hr | hr
    · have := h1.1; rw [List.contains_iff_mem.2 hr] at this; cases this
    · have := h1.2; rw [hr] at this; simp at this

def Closed (its : List It) (I : Nat → Bool) : Prop := ∀ it ∈ its, I it.i = true → ∀ e ∈ it.o.after.toList, Region.binds .any e = true → I e.on = true

def IxR (ops : Array Oper) : Nat → Oper → Prop := fun i o => ops[i]? = some o

theorem ix_range (ops : Array Oper) : All₂ (IxR ops) (List.range ops.size) ops.toList := by
  have key : ∀ (l : List Oper) (n : Nat) (ops : Array Oper), (∀ j o, l[j]? = some o → ops[n + j]? = some o) → All₂ (IxR ops) (List.range' n l.length) l := by
    intro l
    induction l with
    | nil => intro n ops h; exact .nil
    | cons a l ih =>
      intro n ops h
      rw [List.length_cons, List.range'_succ]
      refine .cons (h 0 a rfl) (ih (n + 1) ops fun j o hj => ?_)
      have := h (j + 1) o (by simpa using hj)
      rwa [show n + 1 + j = n + (j + 1) by omega]
  rw [List.range_eq_range', ← Array.length_toList]
  exact key ops.toList 0 ops fun j o hj => by rw [Nat.zero_add]; simpa using hj

/-- heavy items are in order, one behind the other. -/
def chainOk : List It → Bool
  | [] => true
  | x :: xs => xs.all (fun y => y.anc.testBit x.i) && chainOk xs

theorem chain_head {x : It} {xs : List It} (h : chainOk (x :: xs) = true) : (∀ y ∈ xs, y.anc.testBit x.i = true) ∧ chainOk xs = true := by
  simp only [chainOk, Bool.and_eq_true, List.all_eq_true] at h
  exact h

theorem two_bit {n i : Nat} (h : i < n) : (2 ^ n - 1).testBit i = true := by rw [Nat.testBit_two_pow_sub_one]; exact decide_eq_true h

end
end Go.VM