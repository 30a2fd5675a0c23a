/- The machine of values: operations, with all that hangs on types told. -/
import Derived.Test.YtdmpeinbbcjamaaVmMem
set_option linter.unusedVariables false
set_option linter.unusedSimpArgs false
namespace Go.VM
open Go.RowKit

/-! ### operands -/
/-- a constant of the code. -/
def cv : Nat → Value → Option V
  | 0, _ => none
  | f + 1, x => match x with
    | .bool b => some (.bool b)
    | .int k n => some (.int k n)
    | .string s => some (.str (s.data.toList.map UInt8.toNat))
    | .pointer none => some .nilp
    | .slice none 0 0 => some (.lst [] (.ex 0))
    | .map none => some .nilm
    | .nilFunc => some .nilf
    | .nilIface => some .nili
    | .iface t v => (cv f v).map (.iface t)
    | .agg cs => (cs.toList.mapM (cv f)).map .agg
    | .tuple cs => (cs.toList.mapM (cv f)).map .tup
    | _ => none

inductive RX where
  | t (n : Nat)
  | c (v : V)
  | g (n : Nat)

def rx : Operand → Option RX
  | .tmp t => some (.t t)
  | .const v => (cv 6 v).map .c
  | .func f => some (.c (.fn (.func f) [] []))
  | .global g => some (.g g)

def rxs : List Operand → Option (List RX)
  | [] => some []
  | x :: xs => match rx x, rxs xs with
    | some r, some rs => some (r :: rs)
    | _, _ => none

def rxo : Option Operand → Option (Option RX)
  | none => some none
  | some x => (rx x).map some

def rxp : List (Nat × Operand) → Option (List (Nat × RX))
  | [] => some []
  | (i, x) :: xs => match rx x, rxp xs with
    | some r, some rs => some ((i, r) :: rs)
    | _, _ => none

section
variable (gl : List Nat) (tm : TM)
def rvt : RX → Option TV
  | .t n => tg tm n
  | .c v => some (.v v)
  | .g g => match gl.contains g with
    | true => some (.v (.ptr g 0))
    | false => none

def rv (x : RX) : Option V :=
  match rvt gl tm x with
  | some (.v v) => some v
  | _ => none

def rvs : List RX → Option (List V)
  | [] => some []
  | x :: xs => match rv gl tm x, rvs xs with
    | some v, some vs => some (v :: vs)
    | _, _ => none

def rvo : Option RX → Option (Option V)
  | none => some none
  | some x => (rv gl tm x).map some

def rvp : List (Nat × RX) → Option (List (Nat × V))
  | [] => some []
  | (i, x) :: xs => match rv gl tm x, rvp xs with
    | some v, some vs => some ((i, v) :: vs)
    | _, _ => none
end

/-! ### operations -/
/-- how two values are compared. -/
inductive ED where
  | int
  | bool
  | str
  | ptr
  | map
  | func
  | st (fs : List (Nat × ED))

inductive Kd where
  | str
  | slice (sz : Nat)
  | arr (n sz : Nat)

inductive RO where
  | mv (x : RX)
  | pick (c a b : RX)
  | ld (x : RX) (n : Option Nat)
  | nc (x : RX)
  | fa (x : RX) (off : Nat)
  | ia (x i : RX) (sz : Nat)
  | iaa (x i : RX) (len sz : Nat)
  | bin (op : BinOp) (x y : RX)
  | eq (d : ED) (neg : Bool) (x y : RX)
  | inil (neg : Bool) (x : RX)
  | snil (neg : Bool) (x : RX)
  | un (op : UnOp) (x : RX)
  | cvi (k : IntKind) (x : RX)
  | cvs (x : RX)
  | cvb (x : RX)
  | mkI (t : Nat) (x : RX)
  | mkF (g : Nat) (first cap : List RX)
  | slc (k : Kd) (x : RX) (lo hi mx : Option RX)
  | fld (x : RX) (off : Nat) (n : Option Nat)
  | idx (x i : RX) (len sz : Nat) (agg : Bool)
  | idxs (x i : RX)
  | lk (x k : RX) (ok : Bool) (z : V) (d : ED)
  | ta (x : RX) (t : Nat) (ok : Bool) (z : V)
  | ext (x : RX) (i : Nat)
  | lenS (x : RX)
  | lenL (x : RX)
  | lenM (x : RX)
  | cap (x : RX)
  | max (x y : RX)
  | min (x y : RX)
  | bld (z : List V) (pl : List (Nat × Nat)) (parts : List (Nat × RX))
  -- what makes memory
  | al (z : List V)
  | bx (x : RX)
  | bs (sz len : Nat) (z : List V) (parts : List (Nat × RX))
  | mm (res : Option RX)
  | ms (l c : RX) (sz : Nat) (z : List V)
  | csb (x : RX)
  -- what changes it
  | st (a x : RX) (n : Nat)
  -- calls and others
  | call (f : RX) (args : List RX)
  | app (x y : RX) (sz bytes : Nat) (z : List V)
  | reco
  | del (m k : RX) (d : ED)
  | clr (x : RX) (z : List V)
  | dfr (f : RX) (args : List RX)
  | pan (x : RX)
  | mu (m k x : RX) (d : ED)

section
variable (P : Program)

def zeroT (t : TypeId) : Option V := (P.info? t).bind fun i => i.zero.bind (cv 4)

def primD (t : TypeId) : Option ED :=
  match P.underlying t with
  | some .bool => some .bool
  | some (.int _) => some .int
  | some .string => some .str
  | some (.pointer _) => some .ptr
  | some (.map _ _) => some .map
  | some (.func _ _ _) => some .func
  | _ => none

def primFs : List Field → Option (List (Nat × ED))
  | [] => some []
  | f :: fs => match primD P f.type, primFs fs, f.name != "_" with
    | some d, some l, true => some ((f.offset, d) :: l)
    | _, _, _ => none

def eqD (t : TypeId) : Option ED :=
  match P.underlying t with
  | some (.struct fields) => match P.stoodInHeld t || P.eqGuardType P.depth t with
    | true => none
    | false => (primFs P fields.toList).map .st
  | _ => primD P t

def keyD (t : TypeId) : Option ED :=
  match P.underlying t with
  | some (.int _) => some .int
  | some .string => some .str
  | some .bool => some .bool
  | _ => none

/-- whole, or so many cells. -/
def aggN (t : TypeId) : Option (Option Nat) :=
  match isAggT P t with
  | some true => (szT P t).map some
  | some false => some none
  | none => none

def reqn (neg : Bool) (t : TypeId) (x y : Operand) : Option RO :=
  match P.underlying t with
  | some (.interface _) => match y with
    | .const .nilIface => (rx x).map (.inil neg)
    | _ => none
  | some (.slice _) => match y with
    | .const (.slice none _ _) => (rx x).map (.snil neg)
    | _ => none
  | _ => match eqD P t, rx x, rx y with
    | some d, some a, some b => some (.eq d neg a b)
    | _, _, _ => none

def rbin (op : BinOp) (t : TypeId) (x y : Operand) : Option RO :=
  match op with
  | .eql => reqn P false t x y
  | .neq => reqn P true t x y
  | _ => match rx x, rx y with
    | some a, some b => some (.bin op a b)
    | _, _ => none

def rconv (s d : TypeId) (x : Operand) : Option RO :=
  match P.underlying s, P.underlying d, rx x with
  | some (.int _), some (.int k), some x => some (.cvi k x)
  | some .string, some .string, some x => some (.cvs x)
  | some (.slice el), some .string, some x => match P.underlying el with
    | some (.int .u8) => some (.cvb x)
    | _ => none
  | some .string, some (.slice el), some x => match P.underlying el with
    | some (.int .u8) => some (.csb x)
    | _ => none
  | _, _, _ => none

def rslice (t : TypeId) (x : Operand) (lo hi mx : Option Operand) : Option RO :=
  match rx x, rxo lo, rxo hi, rxo mx with
  | some x, some lo, some hi, some mx => match P.underlying t with
    | some .string => some (.slc .str x lo hi mx)
    | some (.slice el) => (szT P el).map fun sz => .slc (.slice sz) x lo hi mx
    | some (.array n el) => (szT P el).map fun sz => .slc (.arr n sz) x lo hi mx
    | _ => none
  | _, _, _, _ => none

def rbuiltin (b : Builtin) (args : List Operand) (argTypes : Array TypeId) : Option RO :=
  match b with
  | .len => match rxs args, (argTypes[0]?).bind P.underlying with
    | some [x], some .string => some (.lenS x)
    | some [x], some (.slice _) => some (.lenL x)
    | some [x], some (.map _ _) => some (.lenM x)
    | _, _ => none
  | .cap => match rxs args, (argTypes[0]?).bind P.underlying with
    | some [x], some (.slice _) => some (.cap x)
    | _, _ => none
  | .max => match rxs args with
    | some [x, y] => some (.max x y)
    | _ => none
  | .min => match rxs args with
    | some [x, y] => some (.min x y)
    | _ => none
  | .append => match rxs args with
    | some [x, y] => match (argTypes[0]?).bind P.underlying, (argTypes[1]?).bind P.underlying with
      | some (.slice el), some tx => match tx with
        | .int _ => none
        | _ => match P.info? el, zeroT P el with
          | some i, some z => match Nat.blt 0 i.size && Nat.blt 0 i.bytes && Nat.beq z.cells.length i.size && Nat.ble i.bytes 65536 with
            | true => some (.app x y i.size i.bytes z.cells)
            | false => none
          | _, _ => none
      | _, _ => none
    | _ => none
  | .recover => match rxs args with
    | some [] => some .reco
    | _ => none
  | .delete => match rxs args, (argTypes[0]?).bind P.underlying with
    | some [m, k], some (.map kt _) => (keyD P kt).map (.del m k)
    | _, _ => none
  | .clear => match rxs args, (argTypes[0]?).bind P.underlying with
    | some [x], some (.slice el) => (zeroT P el).map fun z => .clr x z.cells
    | _, _ => none
  | _ => none

def rop (o : Oper) : Option RO :=
  match o.op with
  | .move x | .assign x => (rx x).map .mv
  | .pick c a b => match rx c, rx a, rx b with
    | some c, some a, some b => some (.pick c a b)
    | _, _, _ => none
  | .build t parts => match zeroT P t, P.underlying t, rxp parts.toList with
    | some z, some (.struct fields), some ps => (places P fields.toList).map fun pl => .bld z.cells pl ps
    | _, _, _ => none
  | .load t a => match rx a, aggN P t with
    | some a, some n => some (.ld a n)
    | _, _ => none
  | .nilCheck x => (rx x).map .nc
  | .binOp op t x y _ => rbin P op t x y
  | .unOp op _ x => (rx x).map (.un op)
  | .convert s d x => rconv P s d x
  | .makeInterface t x => match P.underlying t with
    | some (.interface _) => none
    | some _ => (rx x).map (.mkI t)
    | none => none
  | .makeFunc (.func g) first cap => match rxs first.toList, rxs cap.toList with
    | some a, some b => some (.mkF g a b)
    | _, _ => none
  | .slice t x lo hi mx => rslice P t x lo hi mx
  | .fieldAddr s x f => match P.underlying s, rx x with
    | some (.struct fs), some x => (fs[f]?).bind fun fd => match szT P fd.type with
      | some (_ + 1) => some (.fa x fd.offset)
      | _ => none
    | _, _ => none
  | .field t x f => match P.underlying t, rx x with
    | some (.struct fs), some x => (fs[f]?).bind fun fd => (aggN P fd.type).map fun n => .fld x fd.offset n
    | _, _ => none
  | .indexAddr t x i => match P.underlying t, rx x, rx i with
    | some (.array len el), some x, some i => (szT P el).map fun n => .iaa x i len n
    | some (.slice el), some x, some i => (szT P el).map fun n => .ia x i n
    | _, _, _ => none
  | .index t x i => match P.underlying t, rx x, rx i with
    | some (.array len el), some x, some i => match szT P el, isAggT P el with
      | some n, some a => some (.idx x i len n a)
      | _, _ => none
    | some .string, some x, some i => some (.idxs x i)
    | _, _, _ => none
  | .lookup t x k ok => match P.underlying t, rx x, rx k with
    | some (.map kt et), some x, some k => match keyD P kt, zeroT P et with
      | some d, some z => some (.lk x k ok z d)
      | _, _ => none
    | _, _, _ => none
  | .typeAssert x _ asserted ok => match rx x, P.underlying asserted with
    | some x, some d => match d with
      | .interface _ => none
      | _ => (zeroT P asserted).map fun z => .ta x asserted ok z
    | _, _ => none
  | .extract x i => (rx x).map fun x => .ext x i
  | .alloc t => (zeroT P t).map fun z => .al z.cells
  | .box _ x => (rx x).map .bx
  | .buildSlice t len parts => match P.underlying t, rxp parts.toList with
    | some (.slice el), some ps => match szT P el, zeroT P el with
      | some n, some z => match Nat.ble (len * n) 65536 && Nat.beq z.cells.length n with
        | true => some (.bs n len z.cells ps)
        | false => none
      | _, _ => none
    | _, _ => none
  | .makeMap t r => match r with
    | none => some (.mm none)
    | some x => match P.underlying t, rx x with
      | some (.map _ _), some x => some (.mm (some x))
      | _, _ => none
  | .makeSlice t l c => match P.underlying t, rx l, rx c with
    | some (.slice el), some l, some c => match P.info? el, zeroT P el with
      | some i, some z => match Nat.ble i.bytes 65536 && Nat.beq z.cells.length i.size with
        | true => some (.ms l c i.size z.cells)
        | false => none
      | _, _ => none
    | _, _, _ => none
  | .store t a x => match rx a, rx x, szT P t with
    | some a, some x, some n => some (.st a x n)
    | _, _, _ => none
  | .call { callee := .value f, args, .. } => match rx f, rxs args.toList with
    | some f, some as => some (.call f as)
    | _, _ => none
  | .call { callee := .builtin b, args, argTypes } => rbuiltin P b args.toList argTypes
  | .defer { callee := .value f, args, .. } => match rx f, rxs args.toList with
    | some f, some as => some (.dfr f as)
    | _, _ => none
  | .panic x => (rx x).map .pan
  | .mapUpdate t m k x | .insert t m k x => match P.underlying t, rx m, rx k, rx x with
    | some (.map kt _), some m, some k, some x => (keyD P kt).map (.mu m k x)
    | _, _, _, _ => none
  | _ => none
end

/-! ### operations that change nothing -/
def eqB : ED → V → V → Option Bool
  | .int, .int k a, .int k' b => match decide (k = k') with
    | true => some (decide (a = b))
    | false => none
  | .bool, .bool a, .bool b => some (a == b)
  | .str, .str a, .str b => some (decide (a = b))
  | .ptr, .nilp, .nilp => some true
  | .ptr, .nilp, .ptr _ _ => some false
  | .ptr, .ptr _ _, .nilp => some false
  | .map, .nilm, .nilm => some true
  | .map, .nilm, .map _ => some false
  | .map, .map _, .nilm => some false
  | .func, .nilf, .nilf => some true
  | .func, .nilf, .fn _ _ _ => some false
  | .func, .fn _ _ _, .nilf => some false
  | _, _, _ => none

def eqBs : List (Nat × ED) → List V → List V → Option Bool
  | [], _, _ => some true
  | (o, d) :: fs, xs, ys => match xs[o]?, ys[o]? with
    | some a, some b => match eqB d a b, eqBs fs xs ys with
      | some c, some r => some (c && r)
      | _, _ => none
    | _, _ => none

def eqV : ED → V → V → Option Bool
  | .st fs, .agg xs, .agg ys => eqBs fs xs ys
  | d, x, y => eqB d x y

def abin (op : BinOp) (x y : V) : Option V :=
  match op, x, y with
  | .shl, .int k a, .int _ b => if b < 0 then none else some (.int k (k.wrap (a * 2 ^ min b.toNat k.bits)))
  | .shr, .int k a, .int _ b => if b < 0 then none else some (.int k (a.fdiv (2 ^ min b.toNat k.bits)))
  | op, .int k a, .int k' b =>
    if k = k' then
      match op with
      | .add => some (.int k (k.wrap (a + b)))
      | .sub => some (.int k (k.wrap (a - b)))
      | .mul => some (.int k (k.wrap (a * b)))
      | .quo => if b = 0 then none else some (.int k (k.wrap (a.tdiv b)))
      | .rem => if b = 0 then none else some (.int k (a.tmod b))
      | .and => some (.int k (k.wrap (BitVec.ofInt k.bits a &&& BitVec.ofInt k.bits b).toNat))
      | .or => some (.int k (k.wrap (BitVec.ofInt k.bits a ||| BitVec.ofInt k.bits b).toNat))
      | .xor => some (.int k (k.wrap (BitVec.ofInt k.bits a ^^^ BitVec.ofInt k.bits b).toNat))
      | .andNot => some (.int k (k.wrap (BitVec.ofInt k.bits a &&& ~~~ (BitVec.ofInt k.bits b)).toNat))
      | .lss => some (.bool (a < b))
      | .leq => some (.bool (a ≤ b))
      | .gtr => some (.bool (a > b))
      | .geq => some (.bool (a ≥ b))
      | _ => none
    else none
  | op, .str a, .str b =>
    match op with
    | .add => if a.length + b.length ≤ lim then some (.str (a ++ b)) else none
    | .lss => some (.bool (slt a b))
    | .leq => some (.bool (slt a b || seq a b))
    | .gtr => some (.bool (!(slt a b || seq a b)))
    | .geq => some (.bool (!slt a b))
    | _ => none
  | _, _, _ => none

def asIdx : V → Option Nat
  | .int _ n => if 0 ≤ n then some n.toNat else none
  | _ => none

def nat? (x : Option V) (d : Nat) : Option Nat :=
  match x with
  | none => some d
  | some v => asIdx v

/-- the capacity behind a cut. -/
def LC.cut (c : LC) (lo hi : Nat) (mx : Option Nat) (len : Nat) : Option LC :=
  match mx with
  | some m => match c with
    | .ex k => if hi ≤ m ∧ m ≤ k then some (.ex (m - lo)) else none
    | _ => if hi ≤ m ∧ m ≤ len then some (.ex (m - lo)) else none
  | none => match c with
    | .ex k => some (.ex (k - lo))
    | _ => some .unk

def aslice (k : Kd) (x : V) (lo hi mx : Option V) : Option V :=
  match k, x with
  | .str, .str s =>
    match mx with
    | some _ => none
    | none => match nat? lo 0, nat? hi s.length with
      | some l, some h => if l ≤ h ∧ h ≤ s.length then some (.str ((s.drop l).take (h - l))) else none
      | _, _ => none
  | .slice sz, .lst es c =>
    match nat? lo 0, nat? hi es.length, (match mx with | none => some none | some m => match hi with | none => none | some _ => (asIdx m).map some) with
    | some l, some h, some m => if l ≤ h ∧ h ≤ es.length ∧ (l = 0 ∨ ∀ e ∈ es, e.length = sz) then (c.cut l h m es.length).map fun c => .lst ((es.drop l).take (h - l)) c else none
    | _, _, _ => none
  | .slice sz, .sl b o len cap =>
    match nat? lo 0, nat? hi len with
    | some l, some h =>
      match mx with
      | none =>
        match cap with
        | .op z => if l ≤ h ∧ h ≤ len ∧ z = sz then some (.sl b (o + l * sz) (h - l) (.op z)) else none
        | .ex c => if l ≤ h ∧ h ≤ c then some (.sl b (if c = l then o else o + l * sz) (h - l) (.ex (c - l))) else none
      | some mv => match hi, asIdx mv with
        | none, _ => none
        | _, none => none
        | some _, some m => if l ≤ h ∧ h ≤ m ∧ m ≤ cap.most len then some (.sl b (if m = l then o else o + l * sz) (h - l) (.ex (m - l))) else none
    | _, _ => none
  | .arr n sz, .ptr b o =>
    match nat? lo 0, nat? hi n, mx with
    | some l, some h, none => if l ≤ h ∧ h ≤ n then some (.sl b (if n = l then o else o + l * sz) (h - l) (.ex (n - l))) else none
    | _, _, _ => none
  | _, _ => none

def fillV (place : Nat → Option (Nat × Nat)) (cells : List V) : List (Nat × V) → Option (List V)
  | [] => some cells
  | (i, v) :: rest =>
    match place i with
    | none => none
    | some (off, size) =>
      match decide (v.cells.length = size) with
      | false => none
      | true => match putC cells off v.cells with
        | some cells => fillV place cells rest
        | none => none

/-- a part of cells: one of them, or so many. -/
def partC (cs : List V) (off : Nat) : Option Nat → Option V
  | none => cs[off]?
  | some n => (readC cs off n).map .agg

def keyEq : V → V → Option Bool
  | .int k a, .int k' b => if k = k' then some (decide (a = b)) else none
  | .str a, .str b => some (decide (a = b))
  | .bool a, .bool b => some (a == b)
  | _, _ => none

/-- the kind of a key fits the kind of the map's keys. -/
def keyFits (d : ED) (k : V) : Bool :=
  match d, k with
  | .int, .int _ _ => true
  | .str, .str _ => true
  | .bool, .bool _ => true
  | _, _ => false

def findV (k : V) : List (V × V) → Option (Option V)
  | [] => some none
  | e :: es => match keyEq k e.1 with
    | some true => some (some e.2)
    | some false => findV k es
    | none => none

def updV (k v : V) : List (V × V) → Option (List (V × V))
  | [] => some [(k, v)]
  | e :: es => match keyEq k e.1 with
    | some true => some ((k, v) :: es)
    | some false => (updV k v es).map (e :: ·)
    | none => none

def delV (k : V) : List (V × V) → Option (List (V × V))
  | [] => some []
  | e :: es => match keyEq k e.1 with
    | some true => some es
    | some false => (delV k es).map (e :: ·)
    | none => none

def bytesOf : List V → Option (List Nat)
  | [] => some []
  | .int .u8 (.ofNat n) :: r => if n < 256 then (bytesOf r).map (n :: ·) else none
  | _ => none

/-- with a second result, if that is wanted. -/
def okTup : Bool → V → Bool → V
  | true, v, b => .tup [v, .bool b]
  | false, v, _ => v

def aggOf : Bool → Nat → Option Nat
  | true, n => some n
  | false, _ => none

section
variable (gl : List Nat) (tm : TM) (h : H)

/-- what stands at an address. -/
def ldA (a : TV) (n : Option Nat) : Option V :=
  match a with
  | .v (.ptr b o) => match h.ob b with
    | some (.cells _ cs) => partC cs o n
    | _ => none
  | .l d o => match lg h.lc d with
    | some cs => partC cs o n
    | none => none
  | .e cs => partC cs 0 n
  | _ => none

def faA (a : TV) (off : Nat) : Option TV :=
  match a with
  | .v (.ptr b o) => some (.v (.ptr b (o + off)))
  | .l d o => some (.l d (o + off))
  | .e cs => some (.e (cs.drop off))
  | _ => none

/-- an operation that changes nothing. -/
def rl (o : RO) : Option TV :=
  let e := rv gl tm
  match o with
  | .mv x => rvt gl tm x
  | .pick c a b => match e c with
    | some (.bool true) => rvt gl tm a
    | some (.bool false) => rvt gl tm b
    | _ => none
  | .ld x n => match rvt gl tm x with
    | some a => (ldA h a n).map .v
    | none => none
  | .nc x => match rvt gl tm x with
    | some (.v (.ptr b o)) => some (.v (.ptr b o))
    | some (.v (.fn (.func f) a c)) => some (.v (.fn (.func f) a c))
    | some (.l d o) => some (.l d o)
    | some (.e cs) => some (.e cs)
    | _ => none
  | .fa x off => match rvt gl tm x with
    | some a => faA a off
    | none => none
  | .ia x i sz => match e x, (e i).bind asIdx with
    | some (.lst es _), some i => match es[i]? with
      | some c => if c.length = sz then some (.e c) else none
      | none => none
    | some (.sl b o len _), some i => if i < len then some (.v (.ptr b (o + i * sz))) else none
    | _, _ => none
  | .iaa x i len sz => match rvt gl tm x, (e i).bind asIdx with
    | some a, some i => if i < len then faA a (i * sz) else none
    | _, _ => none
  | .bin op x y => match e x, e y with
    | some a, some b => (abin op a b).map .v
    | _, _ => none
  | .eq d neg x y => match e x, e y with
    | some a, some b => (eqV d a b).map fun q => .v (.bool (match neg with | true => !q | false => q))
    | _, _ => none
  | .inil neg x => match e x with
    | some .nili => some (.v (.bool (!neg)))
    | some (.iface _ _) => some (.v (.bool neg))
    | _ => none
  | .snil neg x => match e x with
    | some (.lst (_ :: _) _) => some (.v (.bool neg))
    | some (.lst [] .nl) => some (.v (.bool (!neg)))
    | some (.lst [] .nn) => some (.v (.bool neg))
    | some (.sl _ _ _ _) => some (.v (.bool neg))
    | _ => none
  | .un op x => match op, e x with
    | .not, some (.bool b) => some (.v (.bool !b))
    | .neg, some (.int k n) => some (.v (.int k (k.wrap (0 - n))))
    | .xor, some (.int k n) => some (.v (.int k (k.wrap (BitVec.ofInt k.bits (if k.signed then -1 else k.max) ^^^ BitVec.ofInt k.bits n).toNat)))
    | _, _ => none
  | .cvi k x => match e x with
    | some (.int _ n) => some (.v (.int k (k.wrap n)))
    | _ => none
  | .cvs x => match e x with
    | some (.str s) => some (.v (.str s))
    | _ => none
  | .cvb x => match e x with
    | some (.lst es _) => (bytesOf es.flatten).map fun s => .v (.str s)
    | some (.sl b o len _) => match h.ob b with
      | some (.cells _ cs) => match readC cs o len with
        | some l => (bytesOf l).map fun s => .v (.str s)
        | none => none
      | _ => none
    | _ => none
  | .mkI t x => (e x).map fun v => .v (.iface t v)
  | .mkF g first cap => match rvs gl tm first, rvs gl tm cap with
    | some a, some b => some (.v (.fn (.func g) a b))
    | _, _ => none
  | .slc k x lo hi mx => match e x, rvo gl tm lo, rvo gl tm hi, rvo gl tm mx with
    | some x, some lo, some hi, some mx => (aslice k x lo hi mx).map .v
    | _, _, _, _ => none
  | .fld x off n => match e x with
    | some (.agg cs) => (partC cs off n).map .v
    | _ => none
  | .idx x i len sz agg => match e x, (e i).bind asIdx with
    | some (.agg cs), some i => if i < len then (partC cs (i * sz) (aggOf agg sz)).map .v else none
    | _, _ => none
  | .idxs x i => match e x, (e i).bind asIdx with
    | some (.str s), some i => (s[i]?).map fun b => .v (.int .u8 b)
    | _, _ => none
  | .lk x k ok z d => match e x, e k with
    | some m, some k => match keyFits d k with
      | false => none
      | true => match (match m with
          | .nilm => some none
          | .map r => match h.ob r with
            | some (.map es) => findV k es
            | _ => none
          | _ => none) with
        | some (some v) => some (.v (okTup ok v true))
        | some none => some (.v (okTup ok z false))
        | none => none
    | _, _ => none
  | .ta x t ok z => match e x with
    | some (.iface t' v) => match Nat.beq t' t with
      | true => some (.v (okTup ok v true))
      | false => match ok with
        | true => some (.v (.tup [z, .bool false]))
        | false => none
    | some .nili => match ok with
      | true => some (.v (.tup [z, .bool false]))
      | false => none
    | _ => none
  | .ext x i => match e x with
    | some (.tup vs) => (vs[i]?).map .v
    | _ => none
  | .lenS x => match e x with
    | some (.str s) => some (.v (.int .i64 s.length))
    | _ => none
  | .lenL x => match e x with
    | some (.lst es _) => some (.v (.int .i64 es.length))
    | some (.sl _ _ n _) => some (.v (.int .i64 n))
    | _ => none
  | .lenM x => match e x with
    | some .nilm => some (.v (.int .i64 0))
    | some (.map r) => match h.ob r with
      | some (.map es) => some (.v (.int .i64 es.length))
      | _ => none
    | _ => none
  | .cap x => match e x with
    | some (.lst _ (.ex c)) => some (.v (.int .i64 c))
    | some (.sl _ _ _ (.ex c)) => some (.v (.int .i64 c))
    | _ => none
  | .max x y => match e x, e y with
    | some (.int k a), some (.int k' b) => if k = k' then some (.v (.int k (if b > a then b else a))) else none
    | _, _ => none
  | .min x y => match e x, e y with
    | some (.int k a), some (.int k' b) => if k = k' then some (.v (.int k (if b < a then b else a))) else none
    | _, _ => none
  | .bld z pl parts => match rvp gl tm parts with
    | some ps => (fillV (pl[·]?) z ps).map fun l => .v (.agg l)
    | none => none
  | _ => none
end
end Go.VM
