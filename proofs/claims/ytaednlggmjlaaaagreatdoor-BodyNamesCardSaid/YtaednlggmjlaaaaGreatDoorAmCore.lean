/- The abstract machine: its values, its memory, its operations (no proofs here). -/
import GoSem.Claims
set_option linter.unusedVariables false
namespace Go.AM
noncomputable section

/-! ### tries -/
inductive T (α : Type) where
  | leaf
  | node (l : T α) (v : Option α) (r : T α)

noncomputable def T.get {α : Type} (t : T α) : Nat → Option α :=
  T.rec (motive := fun _ => Nat → Option α) (fun _ => none) (fun _ v _ gl gr n => Nat.rec (motive := fun _ => Option α) v (fun k _ => Bool.rec (motive := fun _ => Option α) (gr (k / 2)) (gl (k / 2)) (Nat.beq (k % 2) 0)) n) t
theorem T.get_l {α : Type} (n : Nat) : (T.leaf : T α).get n = none := rfl
theorem T.get_z {α : Type} (l r : T α) (v : Option α) : (T.node l v r).get 0 = v := rfl
theorem T.get_s {α : Type} (l r : T α) (v : Option α) (k : Nat) : (T.node l v r).get (k + 1) = match Nat.beq (k % 2) 0 with | true => l.get (k / 2) | false => r.get (k / 2) := by
  show Bool.rec (motive := fun _ => Option α) (r.get (k / 2)) (l.get (k / 2)) (Nat.beq (k % 2) 0) = _
  cases Nat.beq (k % 2) 0 <;> rfl

noncomputable def T.set {α : Type} (f : Nat) : T α → Nat → α → T α :=
  Nat.rec (motive := fun _ => T α → Nat → α → T α) (fun t _ _ => t) (fun _ ih t n a => T.rec (motive := fun _ => T α)
    (Nat.rec (motive := fun _ => T α) (.node .leaf (some a) .leaf) (fun k _ => Bool.rec (motive := fun _ => T α) (.node .leaf none (ih .leaf (k / 2) a)) (.node (ih .leaf (k / 2) a) none .leaf) (Nat.beq (k % 2) 0)) n)
    (fun l v r _ _ => Nat.rec (motive := fun _ => T α) (.node l (some a) r) (fun k _ => Bool.rec (motive := fun _ => T α) (.node l v (ih r (k / 2) a)) (.node (ih l (k / 2) a) v r) (Nat.beq (k % 2) 0)) n) t) f
theorem T.set_0 {α : Type} (t : T α) (n : Nat) (a : α) : T.set 0 t n a = t := rfl
theorem T.set_lz {α : Type} (f : Nat) (a : α) : T.set (f + 1) .leaf 0 a = .node .leaf (some a) .leaf := rfl
theorem T.set_nz {α : Type} (f : Nat) (l r : T α) (v : Option α) (a : α) : T.set (f + 1) (.node l v r) 0 a = .node l (some a) r := rfl
theorem T.set_ls {α : Type} (f k : Nat) (a : α) : T.set (f + 1) .leaf (k + 1) a = match Nat.beq (k % 2) 0 with | true => .node (T.set f .leaf (k / 2) a) none .leaf | false => .node .leaf none (T.set f .leaf (k / 2) a) := by
  show Bool.rec (motive := fun _ => T α) (.node .leaf none (T.set f .leaf (k / 2) a)) (.node (T.set f .leaf (k / 2) a) none .leaf) (Nat.beq (k % 2) 0) = _
  cases Nat.beq (k % 2) 0 <;> rfl
theorem T.set_ns {α : Type} (f k : Nat) (l r : T α) (v : Option α) (a : α) : T.set (f + 1) (.node l v r) (k + 1) a = match Nat.beq (k % 2) 0 with | true => .node (T.set f l (k / 2) a) v r | false => .node l v (T.set f r (k / 2) a) := by
  show Bool.rec (motive := fun _ => T α) (.node l v (T.set f r (k / 2) a)) (.node (T.set f l (k / 2) a) v r) (Nat.beq (k % 2) 0) = _
  cases Nat.beq (k % 2) 0 <;> rfl

def T.del {α : Type} : T α → Nat → T α
  | .leaf, _ => .leaf
  | .node l _ r, 0 => .node l none r
  | .node l v r, k + 1 => match Nat.beq (k % 2) 0 with
    | true => .node (l.del (k / 2)) v r
    | false => .node l v (r.del (k / 2))

/-! ### values -/
/-- how far a slice may grow in its place: just so far, or to the end of its block, which nobody knows (elements of so many cells). -/
inductive Cp where
  | ex (c : Nat)
  | op (z : Nat)
  deriving DecidableEq, Inhabited

def Cp.most (len : Nat) : Cp → Nat
  | .op _ => len
  | .ex c => c

inductive V where
  | bool (b : Bool)
  | int (k : IntKind) (n : Int)
  | str (s : List Nat)
  | nilp
  | ptr (b o : Nat)
  | nils
  | sl (b o len : Nat) (cap : Cp)
  | nilm
  | map (r : Nat)
  | fn (f : Fn) (first cap : List V)
  | nilf
  | iface (t : Nat) (v : V)
  | nili
  | agg (l : List V)
  | tup (l : List V)
  deriving Inhabited

def V.cells : V → List V
  | .agg l => l
  | v => [v]

def V.isCell : V → Bool
  | .agg _ | .tup _ => false
  | _ => true

def undefV : V := .tup []

/-- a constant of the code. -/
def cv : Nat → Value → Option V
  | 0, _ => none
  | f + 1, x => match x with
    | .bool b => some (.bool b)
    | .int k n => some (.int k n)
    | .string s => some (.str (s.data.toList.map UInt8.toNat))
    | .pointer none => some .nilp
    | .slice none 0 0 => some .nils
    | .map none => some .nilm
    | .nilFunc => some .nilf
    | .nilIface => some .nili
    | .iface t v => (cv f v).map (.iface t)
    | .agg cs => (cs.toList.mapM (cv f)).map .agg
    | .tuple cs => (cs.toList.mapM (cv f)).map .tup
    | _ => none

structure ADef where
  fn : Fn
  cap : List V
  args : List V

/-- a deferred call, or the mark of a loop over a function. -/
inductive AD where
  | call (d : ADef)
  | collected (r : Nat)

structure ALoop where
  state : LoopState
  pending : Option Code
  fn : FuncId
  tmps : T V
  nt : Nat
  params : List Tmp
  assign : Code
  body : Code

inductive Obj where
  | cells (opn : Bool) (cs : List V)
  | map (es : List (V × V))
  | loop (l : ALoop)
  | dfr (calls : Option (List AD))
  | siter (s : List Nat) (pos : Nat)

structure H where
  nxt : Nat
  tr : T Obj

def fu : Nat := 64
def lim : Nat := 4294967296
/-- ids below this are the package's variables: read, never written. -/
def glim : Nat := 1000

def H.get (h : H) (b : Nat) : Option Obj := h.tr.get b
def H.put (h : H) (b : Nat) (o : Obj) : H := { h with tr := h.tr.set fu b o }
def H.kill (h : H) (b : Nat) : H := { h with tr := h.tr.del b }
def H.new (h : H) (o : Obj) : Option (Nat × H) :=
  match Nat.ble lim h.nxt with
  | true => none
  | false => some (h.nxt, { nxt := h.nxt + 1, tr := h.tr.set fu h.nxt o })

def H.rd (h : H) (b o : Nat) : Option V :=
  match h.get b with
  | some (.cells _ cs) => cs[o]?
  | _ => none

def H.rdN (h : H) (b o n : Nat) : Option (List V) :=
  match h.get b with
  | some (.cells _ cs) => if o + n ≤ cs.length then some ((cs.drop o).take n) else none
  | _ => none

def H.wrN (h : H) (b o : Nat) (vs : List V) : Option H :=
  match h.get b with
  | some (.cells opn cs) =>
    if o + vs.length ≤ cs.length ∧ vs.all V.isCell = true ∧ glim ≤ b then some (h.put b (.cells opn (cs.take o ++ vs ++ cs.drop (o + vs.length)))) else none
  | _ => none

/-! ### types -/
section
variable (P : Program)

def isAggT (t : TypeId) : Option Bool :=
  match P.underlying t with
  | some (.struct _) | some (.array _ _) => some true
  | some _ => some false
  | none => none

def szT (t : TypeId) : Option Nat := (P.info? t).map (·.size)

def zeroT (t : TypeId) : Option V := (P.info? t).bind fun i => i.zero.bind (cv 4)

/-! ### operands -/
def ev (gl : List Nat) (tm : T V) : Operand → Option V
  | .tmp t => tm.get t
  | .const v => cv 6 v
  | .func f => some (.fn (.func f) [] [])
  | .global g => if gl.contains g then some (.ptr g 0) else none

def evs (gl : List Nat) (tm : T V) : List Operand → Option (List V)
  | [] => some []
  | x :: xs => match ev gl tm x, evs gl tm xs with
    | some v, some vs => some (v :: vs)
    | _, _ => none

/-! ### comparing -/
def slt : List Nat → List Nat → Bool
  | _, [] => false
  | [], _ :: _ => true
  | a :: x, b :: y => Nat.blt a b || (Nat.beq a b && slt x y)

def seq : List Nat → List Nat → Bool
  | [], [] => true
  | a :: x, b :: y => Nat.beq a b && seq x y
  | _, _ => false

def partV (t : TypeId) (cs : List V) (off : Nat) : Option V :=
  match isAggT P t with
  | some true => match szT P t with
    | some n => if off + n ≤ cs.length then some (.agg ((cs.drop off).take n)) else none
    | none => none
  | some false => cs[off]?
  | none => none

mutual
def veq : Nat → TypeId → V → V → Option Bool
  | 0, _, _, _ => none
  | f + 1, t, x, y =>
    match P.underlying t, x, y with
    | some .bool, .bool a, .bool b => some (a == b)
    | some (.int _), .int k a, .int k' b => if k = k' then some (a == b) else none
    | some .string, .str a, .str b => some (seq a b)
    | some (.pointer _), .nilp, .nilp => some true
    | some (.pointer _), .nilp, .ptr _ _ => some false
    | some (.pointer _), .ptr _ _, .nilp => some false
    | some (.interface _), .nili, .nili => some true
    | some (.interface _), .nili, .iface _ _ => some false
    | some (.interface _), .iface _ _, .nili => some false
    | some (.interface _), .iface tx vx, .iface ty vy =>
      if tx = ty then (match (P.info? tx).map (·.comparable) with
        | some true => veq f tx vx vy
        | _ => none)
      else some false
    | some (.struct fields), .agg xs, .agg ys =>
      match P.stoodInHeld t with
      | true => none
      | false => feq f fields.toList xs ys
    | some (.slice _), .nils, .nils => some true
    | some (.slice _), .nils, .sl _ _ _ _ => some false
    | some (.slice _), .sl _ _ _ _, .nils => some false
    | some (.map _ _), .nilm, .nilm => some true
    | some (.map _ _), .nilm, .map _ => some false
    | some (.map _ _), .map _, .nilm => some false
    | some (.func _ _ _), .nilf, .nilf => some true
    | some (.func _ _ _), .nilf, .fn _ _ _ => some false
    | some (.func _ _ _), .fn _ _ _, .nilf => some false
    | _, _, _ => none
def feq : Nat → List Field → List V → List V → Option Bool
  | 0, _, _, _ => none
  | _ + 1, [], _, _ => some true
  | f + 1, fd :: fs, xs, ys =>
    if fd.name = "_" then none else
    match partV P fd.type xs fd.offset, partV P fd.type ys fd.offset with
    | some a, some b => match veq f fd.type a b with
      | some true => feq f fs xs ys
      | some false => some false
      | none => none
    | _, _ => none
end

def guardOk (op : BinOp) (t : TypeId) (x y : Operand) (a b : V) : Bool :=
  match op with
  | .eql | .neq => match a, b with
    | .nili, .nili => (match x with | .const _ => true | _ => false) || (match y with | .const _ => true | _ => false)
    | .agg _, .agg _ => !P.eqGuardType P.depth t
    | _, _ => true
  | _ => true

def abin (op : BinOp) (t : TypeId) (x y : V) : Option V :=
  match op, x, y with
  | .shl, .int k a, .int _ b => if b < 0 then none else some (.int k (k.wrap (a * 2 ^ min b.toNat k.bits)))
  | .shr, .int k a, .int _ b => if b < 0 then none else some (.int k (a.fdiv (2 ^ min b.toNat k.bits)))
  | op, .int k a, .int k' b =>
    if k = k' then
      match op with
      | .add => some (.int k (k.wrap (a + b)))
      | .sub => some (.int k (k.wrap (a - b)))
      | .mul => some (.int k (k.wrap (a * b)))
      | .quo => if b = 0 then none else some (.int k (k.wrap (a.tdiv b)))
      | .rem => if b = 0 then none else some (.int k (a.tmod b))
      | .and => some (.int k (k.wrap (BitVec.ofInt k.bits a &&& BitVec.ofInt k.bits b).toNat))
      | .or => some (.int k (k.wrap (BitVec.ofInt k.bits a ||| BitVec.ofInt k.bits b).toNat))
      | .xor => some (.int k (k.wrap (BitVec.ofInt k.bits a ^^^ BitVec.ofInt k.bits b).toNat))
      | .andNot => some (.int k (k.wrap (BitVec.ofInt k.bits a &&& ~~~ (BitVec.ofInt k.bits b)).toNat))
      | .eql => some (.bool (a == b))
      | .neq => some (.bool (a != b))
      | .lss => some (.bool (a < b))
      | .leq => some (.bool (a ≤ b))
      | .gtr => some (.bool (a > b))
      | .geq => some (.bool (a ≥ b))
      | _ => none
    else none
  | op, .str a, .str b =>
    match op with
    | .add => if a.length + b.length ≤ lim then some (.str (a ++ b)) else none
    | .eql => some (.bool (seq a b))
    | .neq => some (.bool (!seq a b))
    | .lss => some (.bool (slt a b))
    | .leq => some (.bool (slt a b || seq a b))
    | .gtr => some (.bool (!(slt a b || seq a b)))
    | .geq => some (.bool (!slt a b))
    | _ => none
  | .eql, x, y => (veq P 40 t x y).map .bool
  | .neq, x, y => (veq P 40 t x y).map fun b => .bool (!b)
  | _, _, _ => none

/-! ### operations that change nothing -/
def asIdx : V → Option Nat
  | .int _ n => match n with | .ofNat k => some k | .negSucc _ => none
  | _ => none

def nat? (x : Option V) (d : Nat) : Option Nat :=
  match x with
  | none => some d
  | some v => asIdx v

def aslice (t : TypeId) (x : V) (lo hi mx : Option V) : Option V :=
  match P.underlying t, x with
  | some .string, .str s =>
    match mx with
    | some _ => none
    | none => match nat? lo 0, nat? hi s.length with
      | some l, some h => if l ≤ h ∧ h ≤ s.length then some (.str ((s.drop l).take (h - l))) else none
      | _, _ => none
  | some (.slice e), .nils =>
    match szT P e, nat? lo 0, nat? hi 0, mx with
    | some _, some 0, some 0, none => some .nils
    | some _, some 0, some 0, some mv => match hi, asIdx mv with
      | some _, some 0 => some .nils
      | _, _ => none
    | _, _, _, _ => none
  | some (.slice e), .sl b o len cap =>
    match szT P e with
    | none => none
    | some sz =>
      match nat? lo 0, nat? hi len with
      | some l, some h =>
        match mx with
        | none =>
          match cap with
          | .op z => if l ≤ h ∧ h ≤ len ∧ z = sz then some (.sl b (o + l * sz) (h - l) (.op z)) else none
          | .ex c => if l ≤ h ∧ h ≤ c then some (.sl b (if c = l then o else o + l * sz) (h - l) (.ex (c - l))) else none
        | some mv => match hi, asIdx mv with
          | none, _ => none
          | _, none => none
          | some _, some m => if l ≤ h ∧ h ≤ m ∧ m ≤ cap.most len then some (.sl b (if m = l then o else o + l * sz) (h - l) (.ex (m - l))) else none
      | _, _ => none
  | some (.array n e), .ptr b o =>
    match szT P e, nat? lo 0, nat? hi n, mx with
    | some sz, some l, some h, none => if l ≤ h ∧ h ≤ n then some (.sl b (if n = l then o else o + l * sz) (h - l) (.ex (n - l))) else none
    | _, _, _, _ => none
  | _, _ => none

def fillV (place : Nat → Option (Nat × Nat)) (cells : List V) : List (Nat × V) → Option (List V)
  | [] => some cells
  | (i, v) :: rest =>
    match place i with
    | none => none
    | some (off, size) =>
      if v.cells.length = size ∧ off + size ≤ cells.length then
        fillV place (cells.take off ++ v.cells ++ cells.drop (off + size)) rest
      else none

def evParts (gl : List Nat) (tm : T V) : List (Nat × Operand) → Option (List (Nat × V))
  | [] => some []
  | (i, x) :: xs => match ev gl tm x, evParts gl tm xs with
    | some v, some vs => some ((i, v) :: vs)
    | _, _ => none

def places : List Field → Option (List (Nat × Nat))
  | [] => some []
  | f :: fs => match szT P f.type, places fs with
    | some n, some l => some ((f.offset, n) :: l)
    | _, _ => none

def abuild (t : TypeId) (parts : List (Nat × V)) : Option V :=
  match zeroT P t, P.underlying t with
  | some z, some (.struct fields) => match places P fields.toList with
    | some pl => (fillV (pl[·]?) z.cells parts).map .agg
    | none => none
  | some z, some (.array _ e) => match szT P e with
    | some n => (fillV (fun i => some (i * n, n)) z.cells parts).map .agg
    | none => none
  | _, _ => none

def keyEq : V → V → Option Bool
  | .int k a, .int k' b => if k = k' then some (a == b) else none
  | .str a, .str b => some (seq a b)
  | .bool a, .bool b => some (a == b)
  | _, _ => none

/-- the kind of a key fits the kind of the map's keys. -/
def keyFits (d : TypeDesc) (k : V) : Bool :=
  match d, k with
  | .int _, .int _ _ => true
  | .string, .str _ => true
  | .bool, .bool _ => true
  | _, _ => false

def keyOk (t : TypeId) (k : V) : Bool :=
  match P.underlying t with
  | some d => keyFits d k
  | none => false

def findV (k : V) : List (V × V) → Option (Option V)
  | [] => some none
  | e :: es => match keyEq k e.1 with
    | some true => some (some e.2)
    | some false => findV k es
    | none => none

def updV (k v : V) : List (V × V) → Option (List (V × V))
  | [] => some [(k, v)]
  | e :: es => match keyEq k e.1 with
    | some true => some ((k, v) :: es)
    | some false => (updV k v es).map (e :: ·)
    | none => none

def bytesOf : List V → Option (List Nat)
  | [] => some []
  | .int .u8 (.ofNat n) :: r => if n < 256 then (bytesOf r).map (n :: ·) else none
  | _ => none

def alight (gl : List Nat) (tm : T V) (h : H) (o : Oper) : Option V :=
  let e := ev gl tm
  match o.op with
  | .move x | .assign x => e x
  | .pick c a b => match e c with
    | some (.bool true) => e a
    | some (.bool false) => e b
    | _ => none
  | .build t parts => (evParts gl tm parts.toList).bind (abuild P t)
  | .load t a => match e a, isAggT P t with
    | some (.ptr b o), some true => match szT P t with
      | some n => (h.rdN b o n).map .agg
      | none => none
    | some (.ptr b o), some false => h.rd b o
    | _, _ => none
  | .nilCheck x => match e x with
    | some (.ptr b o) => some (.ptr b o)
    | some (.fn (.func f) a c) => some (.fn (.func f) a c)
    | _ => none
  | .binOp op t x y _ => match e x, e y with
    | some a, some b => if guardOk P op t x y a b then abin P op t a b else none
    | _, _ => none
  | .unOp op _ x => match op, e x with
    | .not, some (.bool b) => some (.bool !b)
    | .neg, some (.int k n) => some (.int k (k.wrap (0 - n)))
    | .xor, some (.int k n) => some (.int k (k.wrap (BitVec.ofInt k.bits (if k.signed then -1 else k.max) ^^^ BitVec.ofInt k.bits n).toNat))
    | _, _ => none
  | .convert s d x => match P.underlying s, P.underlying d, e x with
    | some _, some (.int k), some (.int _ n) => some (.int k (k.wrap n))
    | some _, some .string, some (.str s) => some (.str s)
    | some (.slice el), some .string, some (.sl b o len _) =>
      match P.underlying el with
      | some (.int .u8) => match h.rdN b o len with
        | some cs => (bytesOf cs).map .str
        | none => none
      | _ => none
    | some (.slice el), some .string, some .nils =>
      match P.underlying el with
      | some (.int .u8) => some (.str [])
      | _ => none
    | _, _, _ => none
  | .makeInterface t x => match P.underlying t, e x with
    | some (.interface _), _ => none
    | some _, some v => some (.iface t v)
    | _, _ => none
  | .makeFunc (.func g) first cap => match evs gl tm first.toList, evs gl tm cap.toList with
    | some a, some b => some (.fn (.func g) a b)
    | _, _ => none
  | .slice t x lo hi mx =>
    match e x, (match lo with | none => some none | some v => (e v).map some), (match hi with | none => some none | some v => (e v).map some), (match mx with | none => some none | some v => (e v).map some) with
    | some x, some lo, some hi, some mx => aslice P t x lo hi mx
    | _, _, _, _ => none
  | .fieldAddr s x f => match P.underlying s, e x with
    | some (.struct fs), some (.ptr b o) => (fs[f]?).bind fun fd => match szT P fd.type with
      | some (_ + 1) => some (.ptr b (o + fd.offset))
      | _ => none
    | _, _ => none
  | .field t x f => match P.underlying t, e x with
    | some (.struct fs), some (.agg cs) => (fs[f]?).bind fun fd => partV P fd.type cs fd.offset
    | _, _ => none
  | .indexAddr t x i => match P.underlying t, e x, (e i).bind asIdx with
    | some (.array len el), some (.ptr b o), some i => if i < len then (szT P el).map fun n => .ptr b (o + i * n) else none
    | some (.slice el), some (.sl b o len _), some i => if i < len then (szT P el).map fun n => .ptr b (o + i * n) else none
    | _, _, _ => none
  | .index t x i => match P.underlying t, e x, (e i).bind asIdx with
    | some (.array len el), some (.agg cs), some i => if i < len then (szT P el).bind fun n => partV P el cs (i * n) else none
    | some .string, some (.str s), some i => (s[i]?).map fun b => .int .u8 b
    | _, _, _ => none
  | .lookup t x k ok => match P.underlying t, e x, e k with
    | some (.map kt et), some m, some k =>
      match keyOk P kt k with
      | false => none
      | true =>
        match (match m with
          | .nilm => some none
          | .map r => match h.get r with
            | some (.map es) => findV k es
            | _ => none
          | _ => none) with
        | some (some v) => some (if ok then .tup [v, .bool true] else v)
        | some none => (zeroT P et).map fun z => if ok then .tup [z, .bool false] else z
        | none => none
    | _, _, _ => none
  | .typeAssert x xt asserted ok => match e x, P.underlying asserted with
    | some (.iface t v), some d => match d with
      | .interface _ => none
      | _ => if t = asserted then some (if ok then .tup [v, .bool true] else v)
        else if ok then (zeroT P asserted).map fun z => .tup [z, .bool false] else none
    | some .nili, some _ => if ok then (zeroT P asserted).map fun z => .tup [z, .bool false] else none
    | _, _ => none
  | .extract x i => match e x with
    | some (.tup vs) => vs[i]?
    | _ => none
  | .call { callee := .builtin b, args, argTypes } =>
    match evs gl tm args.toList with
    | none => none
    | some vs =>
      match b, vs, (argTypes[0]?).bind P.underlying with
      | .len, [.str s], some .string => some (.int .i64 s.length)
      | .len, [.nils], some (.slice _) => some (.int .i64 0)
      | .len, [.sl _ _ n _], some (.slice _) => some (.int .i64 n)
      | .len, [.nilm], some (.map _ _) => some (.int .i64 0)
      | .len, [.map r], some (.map _ _) => match h.get r with
        | some (.map es) => some (.int .i64 es.length)
        | _ => none
      | .cap, [.sl _ _ _ (.ex c)], some (.slice _) => some (.int .i64 c)
      | .max, [.int k a, .int k' b], _ => if k = k' then some (.int k (if b > a then b else a)) else none
      | .min, [.int k a, .int k' b], _ => if k = k' then some (.int k (if b < a then b else a)) else none
      | _, _, _ => none
  | _ => none

/-! ### operations that make memory -/
def zeros (z : List V) : Nat → List V
  | 0 => []
  | n + 1 => z ++ zeros z n

def aalloc (gl : List Nat) (tm : T V) (h : H) (o : Oper) : Option (V × H) :=
  let e := ev gl tm
  match o.op with
  | .alloc t => match zeroT P t with
    | some z => if z.cells.all V.isCell then (h.new (.cells false z.cells)).map fun (b, h) => (.ptr b 0, h) else none
    | none => none
  | .box _ x => match e x with
    | some v => if v.cells.all V.isCell then (h.new (.cells false v.cells)).map fun (b, h) => (.ptr b 0, h) else none
    | none => none
  | .buildSlice t len parts => match P.underlying t, evParts gl tm parts.toList with
    | some (.slice el), some ps => match szT P el, zeroT P el with
      | some n, some z =>
        if len * n ≤ 65536 ∧ z.cells.length = n then
          match fillV (fun i => some (i * n, n)) (zeros z.cells len) ps with
          | some cs => if cs.all V.isCell then (h.new (.cells false cs)).map fun (b, h) => (.sl b 0 len (.ex len), h) else none
          | none => none
        else none
      | _, _ => none
    | _, _ => none
  | .makeMap t r => match r with
    | none => (h.new (.map [])).map fun (b, h) => (.map b, h)
    | some x => match P.underlying t, e x with
      | some (.map _ _), some (.int _ _) => (h.new (.map [])).map fun (b, h) => (.map b, h)
      | _, _ => none
  | .makeSlice t l c => match P.underlying t, (e l).bind asIdx, (e c).bind asIdx with
    | some (.slice el), some l, some c => match szT P el, zeroT P el, P.info? el with
      | some n, some z, some i =>
        if l ≤ c ∧ c * n ≤ 65536 ∧ c ≤ 65536 ∧ i.bytes ≤ 65536 ∧ z.cells.length = n ∧ z.cells.all V.isCell = true then
          (h.new (.cells false (zeros z.cells c))).map fun (b, h) => (.sl b 0 l (.ex c), h)
        else none
      | _, _, _ => none
    | _, _, _ => none
  | .convert s d x => match P.underlying s, P.underlying d, e x with
    | some _, some (.slice el), some (.str bs) => match P.underlying el with
      | some (.int .u8) => (h.new (.cells true (bs.map fun (n : Nat) => V.int .u8 n))).map fun (b, h) => (.sl b 0 bs.length (.op 1), h)
      | _ => none
    | _, _, _ => none
  | _ => none

/-! ### stores and other changes -/
def astore (gl : List Nat) (tm : T V) (h : H) (o : Oper) : Option H :=
  match o.op with
  | .store t a x => match ev gl tm a, ev gl tm x, szT P t with
    | some (.ptr b o), some v, some n => if v.cells.length = n then h.wrN b o v.cells else none
    | _, _, _ => none
  | _ => none

def lenV : V → Option Nat
  | .nils => some 0
  | .sl _ _ n _ => some n
  | .str s => some s.length
  | _ => none

def cellsOf (h : H) (sz : Nat) : V → Option (List V)
  | .nils => some []
  | .sl b o n _ => h.rdN b o (n * sz)
  | .str s => some (s.map fun (n : Nat) => V.int .u8 n)
  | _ => none

def Cp.fits (need size : Nat) : Cp → Bool
  | .op z => Nat.beq z size
  | .ex c => Nat.ble need c

/-- what is appended, one cell behind the other, and how many elements that are; elements of so many cells. -/
def aappend2 (h : H) (size n : Nat) (new : List V) : V → Option (V × H)
  | .nils => match n with
    | 0 => some (.nils, h)
    | n => (h.new (.cells true new)).map fun (b, h) => (.sl b 0 n (.op size), h)
  | .sl b o len cap => match n with
    | 0 => some (.sl b o len cap, h)
    | n =>
      match h.get b with
      | some (.cells _ cs) =>
        match Nat.ble (o + (len + n) * size) cs.length && cap.fits (len + n) size with
        | true => (h.wrN b (o + len * size) new).map fun h => (.sl b o (len + n) cap, h)
        | false => match h.rdN b o (len * size), cap with
          | some old, .ex c => if c < len + n then (h.new (.cells true (old ++ new))).map fun (b, h) => (.sl b 0 (len + n) (.op size), h) else none
          | some old, .op z => if z = size ∧ glim ≤ b then ((h.kill b).new (.cells true (old ++ new))).map fun (b, h) => (.sl b 0 (len + n) (.op size), h) else none
          | none, _ => none
      | _ => none
  | _ => none

def aappend (h : H) (argTypes : Array TypeId) (s x : V) : Option (V × H) :=
  match (argTypes[0]?).bind P.underlying, (argTypes[1]?).bind P.underlying with
  | some (.slice el), some tx =>
    match tx with
    | .int _ => none
    | _ =>
    match P.info? el, lenV s, lenV x, zeroT P el with
    | some i, some sl, some n, some z0 =>
      match cellsOf h i.size x with
      | none => none
      | some new =>
        if 0 < i.size ∧ 0 < i.bytes ∧ i.bytes * (sl + n) ≤ lim ∧ new.all V.isCell = true ∧ z0.cells.length = i.size ∧ new.length = n * i.size then
          aappend2 h i.size n new s
        else none
    | _, _, _, _ => none
  | _, _ => none

end
end
end Go.AM
