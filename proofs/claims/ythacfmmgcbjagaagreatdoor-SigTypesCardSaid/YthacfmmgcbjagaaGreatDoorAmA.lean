/- laid for this seat: AmCore AmRun AmRel AmMem -/
import GoSem.Claims
import Derived.Calls
import Derived.Below
import Derived.Laws.IdiomCopy
import Derived.Laws.Cells
section
/- The abstract machine: its values, its memory, its operations (no proofs here). -/
set_option linter.unusedVariables false
namespace Go.AM
noncomputable section
inductive T (α : Type) where
 | leaf
 | node (l : T α) (v : Option α) (r : T α)
noncomputable def T.get {α : Type} (t : T α) : Nat → Option α :=
 T.rec (motive := fun _ => Nat → Option α) (fun _ => none) (fun _ v _ gl gr n => Nat.rec (motive := fun _ => Option α) v (fun k _ => Bool.rec (motive := fun _ => Option α) (gr (k / 2)) (gl (k / 2)) (Nat.beq (k % 2) 0)) n) t
theorem T.get_l {α : Type} (n : Nat) : (T.leaf : T α).get n = none := rfl
theorem T.get_z {α : Type} (l r : T α) (v : Option α) : (T.node l v r).get 0 = v := rfl
theorem T.get_s {α : Type} (l r : T α) (v : Option α) (k : Nat) : (T.node l v r).get (k + 1) = match Nat.beq (k % 2) 0 with | true => l.get (k / 2) | false => r.get (k / 2) := by
 show Bool.rec (motive := fun _ => Option α) (r.get (k / 2)) (l.get (k / 2)) (Nat.beq (k % 2) 0) = _
 cases Nat.beq (k % 2) 0 <;> rfl
noncomputable def T.set {α : Type} (f : Nat) : T α → Nat → α → T α :=
 Nat.rec (motive := fun _ => T α → Nat → α → T α) (fun t _ _ => t) (fun _ ih t n a => T.rec (motive := fun _ => T α)
  (Nat.rec (motive := fun _ => T α) (.node .leaf (some a) .leaf) (fun k _ => Bool.rec (motive := fun _ => T α) (.node .leaf none (ih .leaf (k / 2) a)) (.node (ih .leaf (k / 2) a) none .leaf) (Nat.beq (k % 2) 0)) n)
  (fun l v r _ _ => Nat.rec (motive := fun _ => T α) (.node l (some a) r) (fun k _ => Bool.rec (motive := fun _ => T α) (.node l v (ih r (k / 2) a)) (.node (ih l (k / 2) a) v r) (Nat.beq (k % 2) 0)) n) t) f
theorem T.set_0 {α : Type} (t : T α) (n : Nat) (a : α) : T.set 0 t n a = t := rfl
theorem T.set_lz {α : Type} (f : Nat) (a : α) : T.set (f + 1) .leaf 0 a = .node .leaf (some a) .leaf := rfl
theorem T.set_nz {α : Type} (f : Nat) (l r : T α) (v : Option α) (a : α) : T.set (f + 1) (.node l v r) 0 a = .node l (some a) r := rfl
theorem T.set_ls {α : Type} (f k : Nat) (a : α) : T.set (f + 1) .leaf (k + 1) a = match Nat.beq (k % 2) 0 with | true => .node (T.set f .leaf (k / 2) a) none .leaf | false => .node .leaf none (T.set f .leaf (k / 2) a) := by
 show Bool.rec (motive := fun _ => T α) (.node .leaf none (T.set f .leaf (k / 2) a)) (.node (T.set f .leaf (k / 2) a) none .leaf) (Nat.beq (k % 2) 0) = _
 cases Nat.beq (k % 2) 0 <;> rfl
theorem T.set_ns {α : Type} (f k : Nat) (l r : T α) (v : Option α) (a : α) : T.set (f + 1) (.node l v r) (k + 1) a = match Nat.beq (k % 2) 0 with | true => .node (T.set f l (k / 2) a) v r | false => .node l v (T.set f r (k / 2) a) := by
 show Bool.rec (motive := fun _ => T α) (.node l v (T.set f r (k / 2) a)) (.node (T.set f l (k / 2) a) v r) (Nat.beq (k % 2) 0) = _
 cases Nat.beq (k % 2) 0 <;> rfl
def T.del {α : Type} : T α → Nat → T α
 | .leaf, _ => .leaf
 | .node l _ r, 0 => .node l none r
 | .node l v r, k + 1 => match Nat.beq (k % 2) 0 with
  | true => .node (l.del (k / 2)) v r
  | false => .node l v (r.del (k / 2))
inductive Cp where
 | ex (c : Nat)
 | op (z : Nat)
 deriving DecidableEq, Inhabited
def Cp.most (len : Nat) : Cp → Nat
 | .op _ => len
 | .ex c => c
inductive V where
 | bool (b : Bool)
 | int (k : IntKind) (n : Int)
 | str (s : List Nat)
 | nilp
 | ptr (b o : Nat)
 | nils
 | sl (b o len : Nat) (cap : Cp)
 | nilm
 | map (r : Nat)
 | fn (f : Fn) (first cap : List V)
 | nilf
 | iface (t : Nat) (v : V)
 | nili
 | agg (l : List V)
 | tup (l : List V)
 deriving Inhabited
def V.cells : V → List V
 | .agg l => l
 | v => [v]
def V.isCell : V → Bool
 | .agg _ | .tup _ => false
 | _ => true
def undefV : V := .tup []
def cv : Nat → Value → Option V
 | 0, _ => none
 | f + 1, x => match x with
  | .bool b => some (.bool b)
  | .int k n => some (.int k n)
  | .string s => some (.str (s.data.toList.map UInt8.toNat))
  | .pointer none => some .nilp
  | .slice none 0 0 => some .nils
  | .map none => some .nilm
  | .nilFunc => some .nilf
  | .nilIface => some .nili
  | .iface t v => (cv f v).map (.iface t)
  | .agg cs => (cs.toList.mapM (cv f)).map .agg
  | .tuple cs => (cs.toList.mapM (cv f)).map .tup
  | _ => none
structure ADef where
 fn : Fn
 cap : List V
 args : List V
inductive AD where
 | call (d : ADef)
 | collected (r : Nat)
structure ALoop where
 state : LoopState
 pending : Option Code
 fn : FuncId
 tmps : T V
 nt : Nat
 params : List Tmp
 assign : Code
 body : Code
inductive Obj where
 | cells (opn : Bool) (cs : List V)
 | map (es : List (V × V))
 | loop (l : ALoop)
 | dfr (calls : Option (List AD))
 | siter (s : List Nat) (pos : Nat)
structure H where
 nxt : Nat
 tr : T Obj
def fu : Nat := 64
def lim : Nat := 4294967296
def glim : Nat := 1000
def H.get (h : H) (b : Nat) : Option Obj := h.tr.get b
def H.put (h : H) (b : Nat) (o : Obj) : H := { h with tr := h.tr.set fu b o }
def H.kill (h : H) (b : Nat) : H := { h with tr := h.tr.del b }
def H.new (h : H) (o : Obj) : Option (Nat × H) :=
 match Nat.ble lim h.nxt with
 | true => none
 | false => some (h.nxt, { nxt := h.nxt + 1, tr := h.tr.set fu h.nxt o })
def H.rd (h : H) (b o : Nat) : Option V :=
 match h.get b with
 | some (.cells _ cs) => cs[o]?
 | _ => none
def H.rdN (h : H) (b o n : Nat) : Option (List V) :=
 match h.get b with
 | some (.cells _ cs) => if o + n ≤ cs.length then some ((cs.drop o).take n) else none
 | _ => none
def H.wrN (h : H) (b o : Nat) (vs : List V) : Option H :=
 match h.get b with
 | some (.cells opn cs) =>
  if o + vs.length ≤ cs.length ∧ vs.all V.isCell = true ∧ glim ≤ b then some (h.put b (.cells opn (cs.take o ++ vs ++ cs.drop (o + vs.length)))) else none
 | _ => none
section
variable (P : Program)
def isAggT (t : TypeId) : Option Bool :=
 match P.underlying t with
 | some (.struct _) | some (.array _ _) => some true
 | some _ => some false
 | none => none
def szT (t : TypeId) : Option Nat := (P.info? t).map (·.size)
def zeroT (t : TypeId) : Option V := (P.info? t).bind fun i => i.zero.bind (cv 4)
def ev (gl : List Nat) (tm : T V) : Operand → Option V
 | .tmp t => tm.get t
 | .const v => cv 6 v
 | .func f => some (.fn (.func f) [] [])
 | .global g => if gl.contains g then some (.ptr g 0) else none
def evs (gl : List Nat) (tm : T V) : List Operand → Option (List V)
 | [] => some []
 | x :: xs => match ev gl tm x, evs gl tm xs with
  | some v, some vs => some (v :: vs)
  | _, _ => none
def slt : List Nat → List Nat → Bool
 | _, [] => false
 | [], _ :: _ => true
 | a :: x, b :: y => Nat.blt a b || (Nat.beq a b && slt x y)
def seq : List Nat → List Nat → Bool
 | [], [] => true
 | a :: x, b :: y => Nat.beq a b && seq x y
 | _, _ => false
def partV (t : TypeId) (cs : List V) (off : Nat) : Option V :=
 match isAggT P t with
 | some true => match szT P t with
  | some n => if off + n ≤ cs.length then some (.agg ((cs.drop off).take n)) else none
  | none => none
 | some false => cs[off]?
 | none => none
mutual
def veq : Nat → TypeId → V → V → Option Bool
 | 0, _, _, _ => none
 | f + 1, t, x, y =>
  match P.underlying t, x, y with
  | some .bool, .bool a, .bool b => some (a == b)
  | some (.int _), .int k a, .int k' b => if k = k' then some (a == b) else none
  | some .string, .str a, .str b => some (seq a b)
  | some (.pointer _), .nilp, .nilp => some true
  | some (.pointer _), .nilp, .ptr _ _ => some false
  | some (.pointer _), .ptr _ _, .nilp => some false
  | some (.interface _), .nili, .nili => some true
  | some (.interface _), .nili, .iface _ _ => some false
  | some (.interface _), .iface _ _, .nili => some false
  | some (.interface _), .iface tx vx, .iface ty vy =>
   if tx = ty then (match (P.info? tx).map (·.comparable) with
    | some true => veq f tx vx vy
    | _ => none)
   else some false
  | some (.struct fields), .agg xs, .agg ys =>
   match P.stoodInHeld t with
   | true => none
   | false => feq f fields.toList xs ys
  | some (.slice _), .nils, .nils => some true
  | some (.slice _), .nils, .sl _ _ _ _ => some false
  | some (.slice _), .sl _ _ _ _, .nils => some false
  | some (.map _ _), .nilm, .nilm => some true
  | some (.map _ _), .nilm, .map _ => some false
  | some (.map _ _), .map _, .nilm => some false
  | some (.func _ _ _), .nilf, .nilf => some true
  | some (.func _ _ _), .nilf, .fn _ _ _ => some false
  | some (.func _ _ _), .fn _ _ _, .nilf => some false
  | _, _, _ => none
def feq : Nat → List Field → List V → List V → Option Bool
 | 0, _, _, _ => none
 | _ + 1, [], _, _ => some true
 | f + 1, fd :: fs, xs, ys =>
  if fd.name = "_" then none else
  match partV P fd.type xs fd.offset, partV P fd.type ys fd.offset with
  | some a, some b => match veq f fd.type a b with
   | some true => feq f fs xs ys
   | some false => some false
   | none => none
  | _, _ => none
end
def guardOk (op : BinOp) (t : TypeId) (x y : Operand) (a b : V) : Bool :=
 match op with
 | .eql | .neq => match a, b with
  | .nili, .nili => (match x with | .const _ => true | _ => false) || (match y with | .const _ => true | _ => false)
  | .agg _, .agg _ => !P.eqGuardType P.depth t
  | _, _ => true
 | _ => true
def abin (op : BinOp) (t : TypeId) (x y : V) : Option V :=
 match op, x, y with
 | .shl, .int k a, .int _ b => if b < 0 then none else some (.int k (k.wrap (a * 2 ^ min b.toNat k.bits)))
 | .shr, .int k a, .int _ b => if b < 0 then none else some (.int k (a.fdiv (2 ^ min b.toNat k.bits)))
 | op, .int k a, .int k' b =>
  if k = k' then
   match op with
   | .add => some (.int k (k.wrap (a + b)))
   | .sub => some (.int k (k.wrap (a - b)))
   | .mul => some (.int k (k.wrap (a * b)))
   | .quo => if b = 0 then none else some (.int k (k.wrap (a.tdiv b)))
   | .rem => if b = 0 then none else some (.int k (a.tmod b))
   | .and => some (.int k (k.wrap (BitVec.ofInt k.bits a &&& BitVec.ofInt k.bits b).toNat))
   | .or => some (.int k (k.wrap (BitVec.ofInt k.bits a ||| BitVec.ofInt k.bits b).toNat))
   | .xor => some (.int k (k.wrap (BitVec.ofInt k.bits a ^^^ BitVec.ofInt k.bits b).toNat))
   | .andNot => some (.int k (k.wrap (BitVec.ofInt k.bits a &&& ~~~ (BitVec.ofInt k.bits b)).toNat))
   | .eql => some (.bool (a == b))
   | .neq => some (.bool (a != b))
   | .lss => some (.bool (a < b))
   | .leq => some (.bool (a ≤ b))
   | .gtr => some (.bool (a > b))
   | .geq => some (.bool (a ≥ b))
   | _ => none
  else none
 | op, .str a, .str b =>
  match op with
  | .add => if a.length + b.length ≤ lim then some (.str (a ++ b)) else none
  | .eql => some (.bool (seq a b))
  | .neq => some (.bool (!seq a b))
  | .lss => some (.bool (slt a b))
  | .leq => some (.bool (slt a b || seq a b))
  | .gtr => some (.bool (!(slt a b || seq a b)))
  | .geq => some (.bool (!slt a b))
  | _ => none
 | .eql, x, y => (veq P 40 t x y).map .bool
 | .neq, x, y => (veq P 40 t x y).map fun b => .bool (!b)
 | _, _, _ => none
def asIdx : V → Option Nat
 | .int _ n => match n with | .ofNat k => some k | .negSucc _ => none
 | _ => none
def nat? (x : Option V) (d : Nat) : Option Nat :=
 match x with
 | none => some d
 | some v => asIdx v
def aslice (t : TypeId) (x : V) (lo hi mx : Option V) : Option V :=
 match P.underlying t, x with
 | some .string, .str s =>
  match mx with
  | some _ => none
  | none => match nat? lo 0, nat? hi s.length with
   | some l, some h => if l ≤ h ∧ h ≤ s.length then some (.str ((s.drop l).take (h - l))) else none
   | _, _ => none
 | some (.slice e), .nils =>
  match szT P e, nat? lo 0, nat? hi 0, mx with
  | some _, some 0, some 0, none => some .nils
  | some _, some 0, some 0, some mv => match hi, asIdx mv with
   | some _, some 0 => some .nils
   | _, _ => none
  | _, _, _, _ => none
 | some (.slice e), .sl b o len cap =>
  match szT P e with
  | none => none
  | some sz =>
   match nat? lo 0, nat? hi len with
   | some l, some h =>
    match mx with
    | none =>
     match cap with
     | .op z => if l ≤ h ∧ h ≤ len ∧ z = sz then some (.sl b (o + l * sz) (h - l) (.op z)) else none
     | .ex c => if l ≤ h ∧ h ≤ c then some (.sl b (if c = l then o else o + l * sz) (h - l) (.ex (c - l))) else none
    | some mv => match hi, asIdx mv with
     | none, _ => none
     | _, none => none
     | some _, some m => if l ≤ h ∧ h ≤ m ∧ m ≤ cap.most len then some (.sl b (if m = l then o else o + l * sz) (h - l) (.ex (m - l))) else none
   | _, _ => none
 | some (.array n e), .ptr b o =>
  match szT P e, nat? lo 0, nat? hi n, mx with
  | some sz, some l, some h, none => if l ≤ h ∧ h ≤ n then some (.sl b (if n = l then o else o + l * sz) (h - l) (.ex (n - l))) else none
  | _, _, _, _ => none
 | _, _ => none
def fillV (place : Nat → Option (Nat × Nat)) (cells : List V) : List (Nat × V) → Option (List V)
 | [] => some cells
 | (i, v) :: rest =>
  match place i with
  | none => none
  | some (off, size) =>
   if v.cells.length = size ∧ off + size ≤ cells.length then
    fillV place (cells.take off ++ v.cells ++ cells.drop (off + size)) rest
   else none
def evParts (gl : List Nat) (tm : T V) : List (Nat × Operand) → Option (List (Nat × V))
 | [] => some []
 | (i, x) :: xs => match ev gl tm x, evParts gl tm xs with
  | some v, some vs => some ((i, v) :: vs)
  | _, _ => none
def places : List Field → Option (List (Nat × Nat))
 | [] => some []
 | f :: fs => match szT P f.type, places fs with
  | some n, some l => some ((f.offset, n) :: l)
  | _, _ => none
def abuild (t : TypeId) (parts : List (Nat × V)) : Option V :=
 match zeroT P t, P.underlying t with
 | some z, some (.struct fields) => match places P fields.toList with
  | some pl => (fillV (pl[·]?) z.cells parts).map .agg
  | none => none
 | some z, some (.array _ e) => match szT P e with
  | some n => (fillV (fun i => some (i * n, n)) z.cells parts).map .agg
  | none => none
 | _, _ => none
def keyEq : V → V → Option Bool
 | .int k a, .int k' b => if k = k' then some (a == b) else none
 | .str a, .str b => some (seq a b)
 | .bool a, .bool b => some (a == b)
 | _, _ => none
def keyFits (d : TypeDesc) (k : V) : Bool :=
 match d, k with
 | .int _, .int _ _ => true
 | .string, .str _ => true
 | .bool, .bool _ => true
 | _, _ => false
def keyOk (t : TypeId) (k : V) : Bool :=
 match P.underlying t with
 | some d => keyFits d k
 | none => false
def findV (k : V) : List (V × V) → Option (Option V)
 | [] => some none
 | e :: es => match keyEq k e.1 with
  | some true => some (some e.2)
  | some false => findV k es
  | none => none
def updV (k v : V) : List (V × V) → Option (List (V × V))
 | [] => some [(k, v)]
 | e :: es => match keyEq k e.1 with
  | some true => some ((k, v) :: es)
  | some false => (updV k v es).map (e :: ·)
  | none => none
def bytesOf : List V → Option (List Nat)
 | [] => some []
 | .int .u8 (.ofNat n) :: r => if n < 256 then (bytesOf r).map (n :: ·) else none
 | _ => none
def alight (gl : List Nat) (tm : T V) (h : H) (o : Oper) : Option V :=
 let e := ev gl tm
 match o.op with
 | .move x | .assign x => e x
 | .pick c a b => match e c with
  | some (.bool true) => e a
  | some (.bool false) => e b
  | _ => none
 | .build t parts => (evParts gl tm parts.toList).bind (abuild P t)
 | .load t a => match e a, isAggT P t with
  | some (.ptr b o), some true => match szT P t with
   | some n => (h.rdN b o n).map .agg
   | none => none
  | some (.ptr b o), some false => h.rd b o
  | _, _ => none
 | .nilCheck x => match e x with
  | some (.ptr b o) => some (.ptr b o)
  | some (.fn (.func f) a c) => some (.fn (.func f) a c)
  | _ => none
 | .binOp op t x y _ => match e x, e y with
  | some a, some b => if guardOk P op t x y a b then abin P op t a b else none
  | _, _ => none
 | .unOp op _ x => match op, e x with
  | .not, some (.bool b) => some (.bool !b)
  | .neg, some (.int k n) => some (.int k (k.wrap (0 - n)))
  | .xor, some (.int k n) => some (.int k (k.wrap (BitVec.ofInt k.bits (if k.signed then -1 else k.max) ^^^ BitVec.ofInt k.bits n).toNat))
  | _, _ => none
 | .convert s d x => match P.underlying s, P.underlying d, e x with
  | some _, some (.int k), some (.int _ n) => some (.int k (k.wrap n))
  | some _, some .string, some (.str s) => some (.str s)
  | some (.slice el), some .string, some (.sl b o len _) =>
   match P.underlying el with
   | some (.int .u8) => match h.rdN b o len with
    | some cs => (bytesOf cs).map .str
    | none => none
   | _ => none
  | some (.slice el), some .string, some .nils =>
   match P.underlying el with
   | some (.int .u8) => some (.str [])
   | _ => none
  | _, _, _ => none
 | .makeInterface t x => match P.underlying t, e x with
  | some (.interface _), _ => none
  | some _, some v => some (.iface t v)
  | _, _ => none
 | .makeFunc (.func g) first cap => match evs gl tm first.toList, evs gl tm cap.toList with
  | some a, some b => some (.fn (.func g) a b)
  | _, _ => none
 | .slice t x lo hi mx =>
  match e x, (match lo with | none => some none | some v => (e v).map some), (match hi with | none => some none | some v => (e v).map some), (match mx with | none => some none | some v => (e v).map some) with
  | some x, some lo, some hi, some mx => aslice P t x lo hi mx
  | _, _, _, _ => none
 | .fieldAddr s x f => match P.underlying s, e x with
  | some (.struct fs), some (.ptr b o) => (fs[f]?).bind fun fd => match szT P fd.type with
   | some (_ + 1) => some (.ptr b (o + fd.offset))
   | _ => none
  | _, _ => none
 | .field t x f => match P.underlying t, e x with
  | some (.struct fs), some (.agg cs) => (fs[f]?).bind fun fd => partV P fd.type cs fd.offset
  | _, _ => none
 | .indexAddr t x i => match P.underlying t, e x, (e i).bind asIdx with
  | some (.array len el), some (.ptr b o), some i => if i < len then (szT P el).map fun n => .ptr b (o + i * n) else none
  | some (.slice el), some (.sl b o len _), some i => if i < len then (szT P el).map fun n => .ptr b (o + i * n) else none
  | _, _, _ => none
 | .index t x i => match P.underlying t, e x, (e i).bind asIdx with
  | some (.array len el), some (.agg cs), some i => if i < len then (szT P el).bind fun n => partV P el cs (i * n) else none
  | some .string, some (.str s), some i => (s[i]?).map fun b => .int .u8 b
  | _, _, _ => none
 | .lookup t x k ok => match P.underlying t, e x, e k with
  | some (.map kt et), some m, some k =>
   match keyOk P kt k with
   | false => none
   | true =>
    match (match m with
     | .nilm => some none
     | .map r => match h.get r with
      | some (.map es) => findV k es
      | _ => none
     | _ => none) with
    | some (some v) => some (if ok then .tup [v, .bool true] else v)
    | some none => (zeroT P et).map fun z => if ok then .tup [z, .bool false] else z
    | none => none
  | _, _, _ => none
 | .typeAssert x xt asserted ok => match e x, P.underlying asserted with
  | some (.iface t v), some d => match d with
   | .interface _ => none
   | _ => if t = asserted then some (if ok then .tup [v, .bool true] else v)
    else if ok then (zeroT P asserted).map fun z => .tup [z, .bool false] else none
  | some .nili, some _ => if ok then (zeroT P asserted).map fun z => .tup [z, .bool false] else none
  | _, _ => none
 | .extract x i => match e x with
  | some (.tup vs) => vs[i]?
  | _ => none
 | .call { callee := .builtin b, args, argTypes } =>
  match evs gl tm args.toList with
  | none => none
  | some vs =>
   match b, vs, (argTypes[0]?).bind P.underlying with
   | .len, [.str s], some .string => some (.int .i64 s.length)
   | .len, [.nils], some (.slice _) => some (.int .i64 0)
   | .len, [.sl _ _ n _], some (.slice _) => some (.int .i64 n)
   | .len, [.nilm], some (.map _ _) => some (.int .i64 0)
   | .len, [.map r], some (.map _ _) => match h.get r with
    | some (.map es) => some (.int .i64 es.length)
    | _ => none
   | .cap, [.sl _ _ _ (.ex c)], some (.slice _) => some (.int .i64 c)
   | .max, [.int k a, .int k' b], _ => if k = k' then some (.int k (if b > a then b else a)) else none
   | .min, [.int k a, .int k' b], _ => if k = k' then some (.int k (if b < a then b else a)) else none
   | _, _, _ => none
 | _ => none
def zeros (z : List V) : Nat → List V
 | 0 => []
 | n + 1 => z ++ zeros z n
def aalloc (gl : List Nat) (tm : T V) (h : H) (o : Oper) : Option (V × H) :=
 let e := ev gl tm
 match o.op with
 | .alloc t => match zeroT P t with
  | some z => if z.cells.all V.isCell then (h.new (.cells false z.cells)).map fun (b, h) => (.ptr b 0, h) else none
  | none => none
 | .box _ x => match e x with
  | some v => if v.cells.all V.isCell then (h.new (.cells false v.cells)).map fun (b, h) => (.ptr b 0, h) else none
  | none => none
 | .buildSlice t len parts => match P.underlying t, evParts gl tm parts.toList with
  | some (.slice el), some ps => match szT P el, zeroT P el with
   | some n, some z =>
    if len * n ≤ 65536 ∧ z.cells.length = n then
     match fillV (fun i => some (i * n, n)) (zeros z.cells len) ps with
     | some cs => if cs.all V.isCell then (h.new (.cells false cs)).map fun (b, h) => (.sl b 0 len (.ex len), h) else none
     | none => none
    else none
   | _, _ => none
  | _, _ => none
 | .makeMap t r => match r with
  | none => (h.new (.map [])).map fun (b, h) => (.map b, h)
  | some x => match P.underlying t, e x with
   | some (.map _ _), some (.int _ _) => (h.new (.map [])).map fun (b, h) => (.map b, h)
   | _, _ => none
 | .makeSlice t l c => match P.underlying t, (e l).bind asIdx, (e c).bind asIdx with
  | some (.slice el), some l, some c => match szT P el, zeroT P el, P.info? el with
   | some n, some z, some i =>
    if l ≤ c ∧ c * n ≤ 65536 ∧ c ≤ 65536 ∧ i.bytes ≤ 65536 ∧ z.cells.length = n ∧ z.cells.all V.isCell = true then
     (h.new (.cells false (zeros z.cells c))).map fun (b, h) => (.sl b 0 l (.ex c), h)
    else none
   | _, _, _ => none
  | _, _, _ => none
 | .convert s d x => match P.underlying s, P.underlying d, e x with
  | some _, some (.slice el), some (.str bs) => match P.underlying el with
   | some (.int .u8) => (h.new (.cells true (bs.map fun (n : Nat) => V.int .u8 n))).map fun (b, h) => (.sl b 0 bs.length (.op 1), h)
   | _ => none
  | _, _, _ => none
 | _ => none
def astore (gl : List Nat) (tm : T V) (h : H) (o : Oper) : Option H :=
 match o.op with
 | .store t a x => match ev gl tm a, ev gl tm x, szT P t with
  | some (.ptr b o), some v, some n => if v.cells.length = n then h.wrN b o v.cells else none
  | _, _, _ => none
 | _ => none
def lenV : V → Option Nat
 | .nils => some 0
 | .sl _ _ n _ => some n
 | .str s => some s.length
 | _ => none
def cellsOf (h : H) (sz : Nat) : V → Option (List V)
 | .nils => some []
 | .sl b o n _ => h.rdN b o (n * sz)
 | .str s => some (s.map fun (n : Nat) => V.int .u8 n)
 | _ => none
def Cp.fits (need size : Nat) : Cp → Bool
 | .op z => Nat.beq z size
 | .ex c => Nat.ble need c
def aappend2 (h : H) (size n : Nat) (new : List V) : V → Option (V × H)
 | .nils => match n with
  | 0 => some (.nils, h)
  | n => (h.new (.cells true new)).map fun (b, h) => (.sl b 0 n (.op size), h)
 | .sl b o len cap => match n with
  | 0 => some (.sl b o len cap, h)
  | n =>
   match h.get b with
   | some (.cells _ cs) =>
    match Nat.ble (o + (len + n) * size) cs.length && cap.fits (len + n) size with
    | true => (h.wrN b (o + len * size) new).map fun h => (.sl b o (len + n) cap, h)
    | false => match h.rdN b o (len * size), cap with
     | some old, .ex c => if c < len + n then (h.new (.cells true (old ++ new))).map fun (b, h) => (.sl b 0 (len + n) (.op size), h) else none
     | some old, .op z => if z = size ∧ glim ≤ b then ((h.kill b).new (.cells true (old ++ new))).map fun (b, h) => (.sl b 0 (len + n) (.op size), h) else none
     | none, _ => none
   | _ => none
 | _ => none
def aappend (h : H) (argTypes : Array TypeId) (s x : V) : Option (V × H) :=
 match (argTypes[0]?).bind P.underlying, (argTypes[1]?).bind P.underlying with
 | some (.slice el), some tx =>
  match tx with
  | .int _ => none
  | _ =>
  match P.info? el, lenV s, lenV x, zeroT P el with
  | some i, some sl, some n, some z0 =>
   match cellsOf h i.size x with
   | none => none
   | some new =>
    if 0 < i.size ∧ 0 < i.bytes ∧ i.bytes * (sl + n) ≤ lim ∧ new.all V.isCell = true ∧ z0.cells.length = i.size ∧ new.length = n * i.size then
     aappend2 h i.size n new s
    else none
  | _, _, _, _ => none
 | _, _ => none
end
end
end Go.AM
end
section
/- The abstract machine: how it runs. -/
set_option linter.unusedVariables false
namespace Go.AM
noncomputable section
mutual
def V.beq : V → V → Bool
 | .bool a, .bool b => a == b
 | .int k a, .int k' b => decide (k = k') && a == b
 | .str a, .str b => seq a b
 | .nilp, .nilp => true
 | .ptr b o, .ptr b' o' => Nat.beq b b' && Nat.beq o o'
 | .nils, .nils => true
 | .sl b o n c, .sl b' o' n' c' => Nat.beq b b' && Nat.beq o o' && Nat.beq n n' && decide (c = c')
 | .nilm, .nilm => true
 | .map a, .map b => Nat.beq a b
 | .fn f a c, .fn f' a' c' => decide (f = f') && V.beqs a a' && V.beqs c c'
 | .nilf, .nilf => true
 | .iface t v, .iface t' v' => Nat.beq t t' && V.beq v v'
 | .nili, .nili => true
 | .agg a, .agg b => V.beqs a b
 | .tup a, .tup b => V.beqs a b
 | _, _ => false
def V.beqs : List V → List V → Bool
 | [], [] => true
 | a :: x, b :: y => V.beq a b && V.beqs x y
 | _, _ => false
end
structure PE where
 v : V
 recovered : Bool
inductive AMode where
 | ret
 | pan (chain : List PE)
structure S where
 tm : T V
 df : List AD
 u : Option AMode
 h : H
inductive X where
 | norm
 | exit (id : Nat)
 | ret
 | panic (chain : List PE)
inductive AEnd where
 | ret (v : V)
 | pan (chain : List PE)
structure Fr where
 nt : Nat
 rnd : Option Nat
 fid : FuncId
inductive Req where
 | code (fr : Fr) (c : Code) (s : S)
 | call (f : FuncId) (args : List V) (u : Option AMode) (h : H)
 | leave (fn : Func) (tm : T V) (df : List AD) (m : AMode) (u : Option AMode) (h : H)
 | round (l : Nat) (args : List V) (h : H)
inductive Res where
 | x (x : X) (s : S)
 | e (r : AEnd) (u : Option AMode) (h : H)
inductive M (α : Type) where
 | ok (a : α)
 | bad (f : Nat) (p : String)
structure Cfg where
 P : Program
 gl : List Nat
 ib : Option Nat
section
variable (C : Cfg) (rec : Req → M Res)
def putT (nt : Nat) (tm : T V) : Option Nat → V → Option (T V)
 | none, _ => some tm
 | some d, v => match Nat.blt d nt with
  | true => some (tm.set fu d v)
  | false => none
inductive OR where
 | val (v : V) (s : S)
 | pan (chain : List PE) (s : S)
def idxB (c : Nat) : List Nat → Nat → Option Nat
 | [], _ => none
 | b :: r, i => match Nat.beq b c with
  | true => some i
  | false => idxB c r (i + 1)
def Cfg.isIb (C : Cfg) (f : Nat) : Bool := match C.ib with | some i => Nat.beq f i | none => false
def callFn (f : Fn) (cap args : List V) (s : S) : M OR :=
 match f with
 | .func f => match C.isIb f, cap, args with
  | true, [], [.str b, .int .u8 (.ofNat c)] => if c < 256 then .ok (.val (.int .i64 (match idxB c b 0 with | some i => i | none => -1)) s) else .bad f "byte"
  | _, _, _ => match rec (.call f (args ++ cap) none s.h) with
  | .ok (.e (.ret v) _ h) => .ok (.val v { s with h })
  | .ok (.e (.pan ch) _ h) => .ok (.pan ch { s with h })
  | .bad f p => .bad f p
  | _ => .bad 0 "callFn"
 | .yield l => match rec (.round l args s.h) with
  | .ok (.e (.ret v) _ h) => .ok (.val v { s with h })
  | .ok (.e (.pan ch) _ h) => .ok (.pan ch { s with h })
  | .bad f p => .bad f p
  | _ => .bad 0 "callFn"
 | _ => .bad 0 "callFn: kind"
def delV (k : V) : List (V × V) → Option (List (V × V))
 | [] => some []
 | e :: es => match keyEq k e.1 with
  | some true => some es
  | some false => (delV k es).map (e :: ·)
  | none => none
def heavy (fr : Fr) (o : Oper) (s : S) : M OR :=
 let e := ev C.gl s.tm
 match o.op with
 | .call { callee := .value f, args, .. } =>
  match e f, evs C.gl s.tm args.toList with
  | some (.fn f first cap), some vs => callFn C rec f cap (first ++ vs) s
  | _, _ => .bad fr.fid o.pos
 | .call { callee := .builtin b, args, argTypes } =>
  match b, evs C.gl s.tm args.toList with
  | .append, some [x, y] => match aappend C.P s.h argTypes x y with
   | some (v, h) => .ok (.val v { s with h })
   | none => .bad fr.fid o.pos
  | .recover, some [] => match fr.rnd, s.u with
   | none, some (.pan (⟨v, false⟩ :: older)) => .ok (.val v { s with u := some (.pan (⟨v, true⟩ :: older)) })
   | none, _ => .ok (.val .nili s)
   | some _, _ => .bad fr.fid o.pos
  | .delete, some [.map r, k] => match (argTypes[0]?).bind C.P.underlying, s.h.get r with
   | some (.map kt _), some (.map es) => match keyOk C.P kt k, delV k es with
    | true, some es => .ok (.val (.tup []) { s with h := s.h.put r (.map es) })
    | _, _ => .bad fr.fid o.pos
   | _, _ => .bad fr.fid o.pos
  | .clear, some [x] => match (argTypes[0]?).bind C.P.underlying, x with
   | some (.slice _), .nils => .ok (.val (.tup []) s)
   | some (.slice el), .sl b off n _ => match Nat.beq n 0, zeroT C.P el with
    | true, _ => .ok (.val (.tup []) s)
    | false, some z => match s.h.wrN b off (zeros z.cells n) with
     | some h => .ok (.val (.tup []) { s with h })
     | none => .bad fr.fid o.pos
    | false, none => .bad fr.fid o.pos
   | _, _ => .bad fr.fid o.pos
  | _, _ => .bad fr.fid o.pos
 | .defer { callee := .value f, args, .. } =>
  match fr.rnd, e f, evs C.gl s.tm args.toList with
  | none, some (.fn (.func f) first cap), some vs => .ok (.val undefV { s with df := .call ⟨.func f, cap, first ++ vs⟩ :: s.df })
  | _, _, _ => .bad fr.fid o.pos
 | .panic x => match e x with
  | some (.iface t v) => .ok (.pan [⟨.iface t v, false⟩] s)
  | _ => .bad fr.fid o.pos
 | .mapUpdate t m k x | .insert t m k x =>
  match C.P.underlying t, e m, e k, e x with
  | some (.map kt _), some (.map r), some k, some v =>
   match keyOk C.P kt k, s.h.get r with
   | true, some (.map es) => match updV k v es with
    | some es => .ok (.val undefV { s with h := s.h.put r (.map es) })
    | none => .bad fr.fid o.pos
   | _, _ => .bad fr.fid o.pos
  | _, _, _, _ => .bad fr.fid o.pos
 | _ => .bad fr.fid o.pos
def opx (fr : Fr) (o : Oper) (s : S) : M OR :=
 match alight C.P C.gl s.tm s.h o with
 | some v => .ok (.val v s)
 | none => match aalloc C.P C.gl s.tm s.h o with
  | some (v, h) => .ok (.val v { s with h })
  | none => match astore C.P C.gl s.tm s.h o with
   | some h => .ok (.val undefV { s with h })
   | none => heavy C rec fr o s
def wantedA (ops : Array Oper) (o : Oper) (tm : T V) : Option Bool :=
 match o.guard with
 | none => some true
 | some (j, want) => match (ops[j]?).bind (·.dst) with
  | some d => match tm.get d with
   | some (.bool b) => some (b == want)
   | some _ => some false
   | none => none
  | none => some false
def seqOps (fr : Fr) (ops : Array Oper) (l : List Oper) : S → M Res :=
 List.rec (motive := fun _ => S → M Res) (fun s => .ok (.x .norm s)) (fun o _ ih s =>
  match wantedA ops o s.tm with
  | none => .bad fr.fid o.pos
  | some false => match putT fr.nt s.tm o.dst undefV with
   | some tm => ih { s with tm }
   | none => .bad fr.fid o.pos
  | some true => match opx C rec fr o s with
   | .bad f p => .bad f p
   | .ok (.pan ch s) => .ok (.x (.panic ch) s)
   | .ok (.val v s) => match putT fr.nt s.tm o.dst v with
    | some tm => ih { s with tm }
    | none => .bad fr.fid o.pos) l
theorem seqOps_n (fr : Fr) (ops : Array Oper) (s : S) : seqOps C rec fr ops [] s = .ok (.x .norm s) := rfl
theorem seqOps_c (fr : Fr) (ops : Array Oper) (o : Oper) (os : List Oper) (s : S) : seqOps C rec fr ops (o :: os) s =
  match wantedA ops o s.tm with
  | none => .bad fr.fid o.pos
  | some false => match putT fr.nt s.tm o.dst undefV with
   | some tm => seqOps C rec fr ops os { s with tm }
   | none => .bad fr.fid o.pos
  | some true => match opx C rec fr o s with
   | .bad f p => .bad f p
   | .ok (.pan ch s) => .ok (.x (.panic ch) s)
   | .ok (.val v s) => match putT fr.nt s.tm o.dst v with
    | some tm => seqOps C rec fr ops os { s with tm }
    | none => .bad fr.fid o.pos := rfl
def cls (P : Program) (o : Oper) : Nat :=
 match o.op with
 | .move _ | .assign _ | .pick _ _ _ | .build _ _ | .nilCheck _ | .binOp _ _ _ _ _ | .unOp _ _ _ | .makeInterface _ _ | .makeFunc _ _ _
 | .slice _ _ _ _ _ | .fieldAddr _ _ _ | .field _ _ _ | .indexAddr _ _ _ | .index _ _ _ | .typeAssert _ _ _ _ | .extract _ _ => 0
 | .load _ _ | .lookup _ _ _ _ => 1
 | .convert s d _ => match P.underlying d with
  | some (.slice _) => 2
  | _ => match P.underlying s with
   | some (.slice _) => 1
   | _ => 0
 | .call { callee := .builtin b, .. } => match b with
  | .len => 1
  | .cap | .max | .min => 0
  | _ => 4
 | .alloc _ | .box _ _ | .buildSlice _ _ _ | .makeMap _ _ | .makeSlice _ _ _ => 2
 | .store _ _ _ => 3
 | _ => 4
def ancOf (acc : List Nat) (es : List Edge) : Nat :=
 match es with
 | [] => 0
 | e :: es => if Region.binds .any e then 2 ^ e.on ||| acc.getD e.on 0 ||| ancOf acc es else ancOf acc es
def ancs : List Oper → List Nat → List Nat
 | [], acc => acc
 | o :: os, acc => ancs os (acc ++ [ancOf acc o.after.toList])
structure It where
 i : Nat
 o : Oper
 c : Nat
 anc : Nat
 lo : Nat
def heavyBits (P : Program) : List Oper → Nat → List Nat
 | [], _ => []
 | o :: os, i => match Nat.ble 3 (cls P o) with
  | true => i :: heavyBits P os (i + 1)
  | false => heavyBits P os (i + 1)
def countBits (an : Nat) : List Nat → Nat
 | [] => 0
 | h :: hs => match an.testBit h with
  | true => countBits an hs + 1
  | false => countBits an hs
def mkIts (P : Program) (hs : List Nat) : List Oper → List Nat → Nat → List It
 | o :: os, an :: as, i => ⟨i, o, cls P o, an, countBits an hs⟩ :: mkIts P hs os as (i + 1)
 | _, _, _ => []
def items (P : Program) (ops : List Oper) : List It :=
 mkIts P (heavyBits P ops 0) ops (ancs ops []) 0
def cmpb (x y : It) : Bool := x.anc.testBit y.i || y.anc.testBit x.i
def tmpsOf (ops : Array Oper) (o : Oper) : List Nat :=
 o.op.operands.toList.filterMap (fun | .tmp t => some t | _ => none) ++
 (match o.guard with | some (j, _) => ((ops[j]?).bind (·.dst)).toList | none => [])
def slotOk (ops : Array Oper) (its : List It) : Bool :=
 its.all fun x => its.all fun y => Nat.beq x.i y.i || cmpb x y ||
  !(match y.o.dst with | some d => (tmpsOf ops x.o).contains d || x.o.dst == some d | none => false)
def backOk (its : List It) : Bool := its.all fun x => x.o.after.toList.all fun e => !Region.binds .any e || Nat.blt e.on x.i
def sub (tm : T V) (l : List Nat) : T V :=
 List.rec (motive := fun _ => T V) .leaf (fun t _ ih => match tm.get t, Nat.blt t lim with
  | some v, true => ih.set fu t v
  | _, _ => ih) l
theorem sub_n (tm : T V) : sub tm [] = .leaf := rfl
theorem sub_c (tm : T V) (t : Nat) (ts : List Nat) : sub tm (t :: ts) = match tm.get t, Nat.blt t lim with
  | some v, true => (sub tm ts).set fu t v
  | _, _ => sub tm ts := rfl
structure Ev where
 it : It
 tmr : T V
 k : Nat
 v : V
 b : Nat
structure DS where
 s : S
 evs : List Ev
 mask : Nat
def turnOk (d : DS) (it : It) : Bool := Nat.beq (it.anc &&& d.mask) it.anc && !d.mask.testBit it.i
def DS.add (fr : Fr) (d : DS) (it : It) (tmr : T V) (k : Nat) (v : V) (s : S) : Option DS :=
 match putT fr.nt d.s.tm it.o.dst v with
 | some tm => some { s := { s with tm }, evs := ⟨it, tmr, k, v, d.s.h.nxt⟩ :: d.evs, mask := d.mask ||| 2 ^ it.i }
 | none => none
def item1 (fr : Fr) (ops : Array Oper) (it : It) (d : DS) : Option DS :=
 let tmr := sub d.s.tm (tmpsOf ops it.o)
 match turnOk d it, wantedA ops it.o tmr with
 | true, some false => d.add fr it tmr 0 undefV d.s
 | true, some true =>
  match Nat.beq it.c 2 with
  | true => match aalloc C.P C.gl tmr d.s.h it.o with
   | some (v, h) => d.add fr it tmr 2 v { d.s with h }
   | none => none
  | false => match alight C.P C.gl tmr d.s.h it.o with
   | some v => d.add fr it tmr 1 v d.s
   | none => none
 | _, _ => none
def phase (fr : Fr) (ops : Array Oper) (k : Nat) (l : List It) : DS → Option DS :=
 List.rec (motive := fun _ => DS → Option DS) (fun d => some d) (fun it _ ih d =>
  match Nat.beq it.lo k && Nat.blt it.c 3 with
  | false => ih d
  | true => match item1 C fr ops it d with
   | some d => ih d
   | none => none) l
theorem phase_n (fr : Fr) (ops : Array Oper) (k : Nat) (d : DS) : phase C fr ops k [] d = some d := rfl
theorem phase_c (fr : Fr) (ops : Array Oper) (k : Nat) (it : It) (its : List It) (d : DS) : phase C fr ops k (it :: its) d =
  match Nat.beq it.lo k && Nat.blt it.c 3 with
  | false => phase C fr ops k its d
  | true => match item1 C fr ops it d with
   | some d => phase C fr ops k its d
   | none => none := rfl
def pureOp (o : Oper) : Bool :=
 match o.op with
 | .load .. => false
 | .convert .. => false
 | .lookup .. => false
 | .call .. => false
 | _ => true
def pendOk (h : H) (anc : Nat) (l : List Ev) : Bool :=
 List.rec (motive := fun _ => Bool) true (fun e _ ih => (!Nat.beq e.k 1 || pureOp e.it.o || anc.testBit e.it.i || (match alight C.P C.gl e.tmr h e.it.o with | some v => V.beq v e.v | none => false)) && ih) l
theorem pendOk_c (h : H) (anc : Nat) (e : Ev) (es : List Ev) : pendOk C h anc (e :: es) = ((!Nat.beq e.k 1 || pureOp e.it.o || anc.testBit e.it.i || (match alight C.P C.gl e.tmr h e.it.o with | some v => V.beq v e.v | none => false)) && pendOk C h anc es) := rfl
def clearD (tm : T V) : List It → T V
 | [] => tm
 | it :: its => match it.o.dst with
  | some d => clearD (tm.del d) its
  | none => clearD tm its
inductive HR where
 | go (d : DS)
 | stop (ch : List PE) (s : S)
def heavy1 (fr : Fr) (ops : Array Oper) (its : List It) (it : It) (d : DS) : M HR :=
 let tmr := sub d.s.tm (tmpsOf ops it.o)
 match turnOk d it, wantedA ops it.o tmr with
 | true, some false => match d.add fr it tmr 0 undefV d.s with
  | some d => .ok (.go d)
  | none => .bad fr.fid "heavy1"
 | true, some true =>
  match Nat.beq it.c 3 with
  | true => match astore C.P C.gl tmr d.s.h it.o with
   | some h => match d.add fr it tmr 3 undefV { d.s with h } with
    | some d => .ok (.go d)
    | none => .bad fr.fid "heavy1"
   | none => .bad fr.fid it.o.pos
  | false => match heavy C rec fr it.o { d.s with tm := tmr } with
   | .bad f p => .bad f p
   | .ok (.pan ch s) => .ok (.stop ch { s with tm := clearD d.s.tm its })
   | .ok (.val v s) => match d.add fr it tmr 3 v s with
    | some d => .ok (.go d)
    | none => .bad fr.fid "heavy1"
 | _, _ => .bad fr.fid "heavy1"
def waits (its : List It) (it : It) (d : DS) : Bool := its.all fun x => Nat.ble 3 x.c || d.mask.testBit x.i || x.anc.testBit it.i
def phases (fr : Fr) (ops : Array Oper) (its : List It) (fin : DS → M Res) : List It → Nat → Nat → DS → M Res
 | hs, k, anc, d => match phase C fr ops k its d with
  | none => .bad fr.fid "phase"
  | some d => match pendOk C d.s.h anc d.evs with
   | false => .bad fr.fid "pend"
   | true => match hs with
    | [] => fin d
    | it :: hs => match waits its it d with
     | false => .bad fr.fid "waits"
     | true => match heavy1 C rec fr ops its it d with
      | .bad f p => .bad f p
      | .ok (.stop ch s) => .ok (.x (.panic ch) s)
      | .ok (.go d) => phases fr ops its fin hs (k + 1) it.anc d
def rdCells (P : Program) (gl : List Nat) (tm : T V) (o : Oper) : Option (Nat × Nat × Nat) :=
 match o.op with
 | .store t a _ => match ev gl tm a, szT P t with
  | some (.ptr b o), some n => some (b, o, n)
  | _, _ => none
 | _ => none
def apartC : Option (Nat × Nat × Nat) → Option (Nat × Nat × Nat) → Bool
 | some (b, o, n), some (b', o', n') => !Nat.beq b b' || Nat.ble (o + n) o' || Nat.ble (o' + n') o
 | _, _ => false
def chainOk : List It → Bool
 | [] => true
 | x :: xs => xs.all (fun y => y.anc.testBit x.i) && chainOk xs
def full (n : Nat) (d : DS) : M Res := match Nat.beq d.mask (2 ^ n - 1) with
 | true => .ok (.x .norm d.s)
 | false => .bad 0 "full"
def noLate (its : List It) (k : Nat) : Bool := its.all fun x => Nat.ble 3 x.c || Nat.ble x.lo k
def twoStores (ops : Array Oper) (a b : It) (d : DS) : Bool :=
 match a.o.guard, b.o.guard, a.o.dst, b.o.dst with
 | none, none, none, none =>
  match rdCells C.P C.gl (sub d.s.tm (tmpsOf ops a.o)) a.o, rdCells C.P C.gl (sub d.s.tm (tmpsOf ops b.o)) b.o with
  | some (x, _, _), some (y, _, _) => Nat.beq a.c 3 && Nat.beq b.c 3 && !Nat.beq x y && Nat.blt x lim && Nat.blt y lim
  | _, _ => false
 | _, _, _, _ => false
def forkFin (fr : Fr) (ops : Array Oper) (its : List It) (a b : It) (k : Nat) (d : DS) : M Res :=
 match twoStores C ops a b d && noLate its k && waits its a d && waits its b d with
 | false => .bad fr.fid "fork"
 | true => match heavy1 C rec fr ops its a d, heavy1 C rec fr ops its b d with
  | .ok (.go d1), .ok (.go e1) => match pendOk C d1.s.h a.anc d1.evs && pendOk C e1.s.h b.anc e1.evs && waits its b d1 && waits its a e1 with
   | false => .bad fr.fid "fork: pend"
   | true => match heavy1 C rec fr ops its b d1, heavy1 C rec fr ops its a e1 with
    | .ok (.go d2), .ok (.go e2) => match pendOk C d2.s.h b.anc d2.evs && pendOk C e2.s.h a.anc e2.evs && Nat.beq d2.mask (2 ^ ops.size - 1) && Nat.beq e2.mask (2 ^ ops.size - 1) with
     | true => .ok (.x .norm d2.s)
     | false => .bad fr.fid "fork: full"
    | _, _ => .bad fr.fid "fork: second"
  | _, _ => .bad fr.fid "fork: first"
def last2 : List It → Option (List It × It × It)
 | [] => none
 | [_] => none
 | a :: b :: r => match r with
  | [] => some ([], a, b)
  | c :: r => match last2 (b :: c :: r) with
   | some (f, x, y) => some (a :: f, x, y)
   | none => none
def drawnOps (fr : Fr) (ops : Array Oper) (s : S) : M Res :=
 let its := items C.P ops.toList
 match slotOk ops its && backOk its with
 | false => .bad fr.fid "regOk"
 | true =>
  let hs := its.filter fun it => Nat.ble 3 it.c
  match chainOk hs with
  | true => phases C rec fr ops its (full ops.size) hs 0 0 ⟨s, [], 0⟩
  | false => match last2 hs with
   | some (f, a, b) => match chainOk (f ++ [a]) && chainOk (f ++ [b]) with
    | true => phases C rec fr ops its (forkFin C rec fr ops its a b f.length) f 0 0 ⟨s, [], 0⟩
    | false => .bad fr.fid (match its with | it :: _ => it.o.pos ++ " chain" | [] => "chain")
   | none => .bad fr.fid (match its with | it :: _ => it.o.pos ++ " chain" | [] => "chain")
def then_ (r : M Res) (k : S → M Res) : M Res :=
 match r with
 | .ok (.x .norm s) => k s
 | r => r
def resV (h : H) (tm : T V) : List ResultVar → Option (List V)
 | [] => some []
 | .tmp t :: rs => match tm.get t, resV h tm rs with
  | some v, some vs => some (v :: vs)
  | _, _ => none
 | .cell a t :: rs => match tm.get a, resV h tm rs with
  | some (.ptr b o), some vs => match isAggT C.P t with
   | some true => match szT C.P t with
    | some n => match h.rdN b o n with
     | some cs => some (.agg cs :: vs)
     | none => none
    | none => none
   | some false => match h.rd b o with
    | some v => some (v :: vs)
    | none => none
   | none => none
  | _, _ => none
def setAll (tm : T V) : Nat → List V → T V
 | _, [] => tm
 | i, v :: vs => setAll (tm.set fu i v) (i + 1) vs
def setPs (nt : Nat) (tm : T V) : List Nat → List V → Option (T V)
 | [], [] => some tm
 | d :: ds, v :: vs => match Nat.blt d nt with
  | true => setPs nt (tm.set fu d v) ds vs
  | false => none
 | _, _ => none
def settleA : AMode → AMode
 | .pan (⟨_, true⟩ :: _) => .ret
 | m => m
def raisedA (m : AMode) (ch : List PE) : AMode :=
 match m with
 | .pan old => .pan (ch ++ old)
 | .ret => .pan ch
def retV : List V → V
 | [v] => v
 | vs => .tup vs
def stepR : Req → M Res
 | .code fr c s =>
  match c with
  | .skip => .ok (.x .norm s)
  | .label _ => .ok (.x .norm s)
  | .region _ ops false => seqOps C rec fr ops ops.toList s
  | .region _ ops true => drawnOps C rec fr ops s
  | .seq a b => then_ (rec (.code fr a s)) fun s => rec (.code fr b s)
  | .cond x a b => match ev C.gl s.tm x with
   | some (.bool true) => rec (.code fr a s)
   | some (.bool false) => rec (.code fr b s)
   | _ => .bad fr.fid "cond"
  | .block id b => match rec (.code fr b s) with
   | .ok (.x (.exit i) s) => if i = id then .ok (.x .norm s) else .ok (.x (.exit i) s)
   | r => r
  | .scope b => rec (.code fr b s)
  | .loop b => then_ (rec (.code fr b s)) fun s => rec (.code fr (.loop b) s)
  | .exit id => .ok (.x (.exit id) s)
  | .ret => .ok (.x .ret s)
  | .rangeFunc f ps assign body =>
   match fr.rnd, ev C.gl s.tm f, s.h.new (.dfr (some [])) with
   | none, some (.fn (.func f) first cap), some (r, h) =>
    match h.new (.loop { state := .ready, pending := none, fn := fr.fid, tmps := s.tm, nt := fr.nt, params := ps.toList, assign, body }) with
    | none => .bad 0 "step"
    | some (l, h) =>
     match rec (.call f ((first ++ [.fn (.yield l) [] []]) ++ cap) none h) with
     | .bad f p => .bad f p
     | .ok (.x _ _) => .bad 0 "step"
     | .ok (.e (.pan ch) _ h) => .ok (.x (.panic ch) { s with df := .collected r :: s.df, h })
     | .ok (.e (.ret _) _ h) =>
      let s := { s with df := .collected r :: s.df, h }
      match h.get l with
      | some (.loop lp) => if lp.state = .busy then .bad 0 "busy" else
       let s := { s with h := s.h.put l (.loop { lp with state := .exhausted }) }
       match lp.pending with
       | none => .ok (.x .norm s)
       | some .ret => .ok (.x .ret s)
       | some (.exit id) => .ok (.x (.exit id) s)
       | _ => .bad 0 "step"
      | _ => .bad 0 "step"
   | _, _, _ => .bad 0 "step"
  | _ => .bad 0 "step"
 | .call f args u h =>
  match C.P.funcs[f]? with
  | none => .bad f "no func"
  | some fn => match fn.body with
   | none => .bad f "no body"
   | some b =>
    match Nat.ble args.length fn.ntmps && Nat.ble fn.ntmps lim with
    | false => .bad 0 "step"
    | true =>
     match rec (.code ⟨fn.ntmps, none, f⟩ b ⟨setAll .leaf 0 args, [], u, h⟩) with
     | .ok (.x .norm s) => rec (.leave fn s.tm s.df .ret s.u s.h)
     | .ok (.x .ret s) => rec (.leave fn s.tm s.df .ret s.u s.h)
     | .ok (.x (.panic ch) s) => rec (.leave fn s.tm s.df (.pan ch) s.u s.h)
     | .bad f p => .bad f p
     | _ => .bad f "call: exit"
 | .leave fn tm df m u h =>
  match df with
  | [] => match m with
   | .pan ch => .ok (.e (.pan ch) u h)
   | .ret => match resV C h tm fn.results.toList with
    | some vs => .ok (.e (.ret (retV vs)) u h)
    | none => .bad 0 "step"
  | .collected r :: ds => match h.get r with
   | some (.dfr (some cs)) => rec (.leave fn tm (cs ++ ds) m u (h.put r (.dfr none)))
   | _ => .bad 0 "step"
  | .call ⟨.func f, cap, args⟩ :: ds =>
   match rec (.call f (args ++ cap) (some m) h) with
   | .ok (.e (.ret _) (some m) h) =>
    rec (.leave fn tm ds (settleA m) u h)
   | .ok (.e (.pan ch) (some m) h) =>
    rec (.leave fn tm ds (raisedA m ch) u h)
   | .bad f p => .bad f p
   | _ => .bad 0 "leave"
  | .call _ :: _ => .bad 0 "step"
 | .round l args h =>
  match h.get l with
  | some (.loop lp) =>
   if lp.state = .ready ∧ lp.nt ≤ lim then
    match setPs lp.nt lp.tmps lp.params args with
    | none => .bad 0 "step"
    | some tm =>
     let fr : Fr := ⟨lp.nt, some l, lp.fn⟩
     match rec (.code fr lp.assign ⟨tm, [], none, h⟩) with
     | .ok (.x .norm s) =>
      match s.df, s.h.get l, C.P.funcs[lp.fn]? with
      | [], some (.loop lp1), some _ =>
       if lp1.state = .ready then
        match rec (.code fr lp.body { s with h := s.h.put l (.loop { lp1 with state := .busy }) }) with
        | .ok (.x x s) =>
         match s.df, s.h.get l with
         | [], some (.loop lp3) =>
          let fin (j : Option Code) : M Res :=
           .ok (.e (.ret (.bool j.isNone)) none (s.h.put l (.loop { lp3 with state := if j.isNone then .ready else .done, pending := j })))
          match x with
          | .norm => fin none
          | .ret => fin (some .ret)
          | .exit id => fin (some (.exit id))
          | .panic ch => .ok (.e (.pan ch) none s.h)
         | _, _ => .bad lp.fn "round end"
        | .bad f p => .bad f p
        | _ => .bad lp.fn "round body"
       else .bad lp.fn "round ready"
      | _, _, _ => .bad lp.fn "round loop"
     | .bad f p => .bad f p
     | _ => .bad lp.fn "round assign"
   else .bad lp.fn "round not ready"
  | _ => .bad 0 "round none"
end
noncomputable def run (C : Cfg) (n : Nat) : Req → M Res :=
 Nat.rec (motive := fun _ => Req → M Res) (fun _ => .bad 0 "fuel") (fun _ ih r => stepR C ih r) n
theorem run_z (C : Cfg) (r : Req) : run C 0 r = .bad 0 "fuel" := rfl
theorem run_s (C : Cfg) (n : Nat) (r : Req) : run C (n + 1) r = stepR C (run C n) r := rfl
end
end Go.AM
end
section
/- The abstract machine: how its values and memory stand to the model's. -/
set_option linter.unusedVariables false
set_option linter.unusedSimpArgs false
namespace Go.AM
noncomputable section
open Go.RowKit
theorem T.get_leaf {α : Type} (n : Nat) : (T.leaf : T α).get n = none := by cases n <;> rfl
theorem T.get_set {α : Type} : ∀ (f : Nat) (t : T α) (n : Nat) (a : α) (m : Nat), n + 1 < 2 ^ f → (T.set f t n a).get m = if m = n then some a else t.get m := by
 intro f
 induction f with
 | zero => intro t n a m h; omega
 | succ f ih =>
  intro t n a m h
  cases n with
  | zero =>
   cases t <;> cases m <;> simp [T.set_0, T.set_lz, T.set_nz, T.set_ls, T.set_ns, T.get_l, T.get_z, T.get_s, T.get_leaf]
   all_goals split <;> simp [T.get_leaf]
  | succ k =>
   have hk : k / 2 + 1 < 2 ^ f := by rw [Nat.pow_succ] at h; omega
   have key : ∀ (m : Nat), Nat.beq (m % 2) 0 = Nat.beq (k % 2) 0 → (m / 2 = k / 2 ↔ m = k) := by
    intro m hm
    have e : (m % 2 = 0) ↔ (k % 2 = 0) := by
     constructor
     ·intro h0; have := hm; rw [h0] at this; exact Nat.eq_of_beq_eq_true (this.symm.trans (by rfl))
     ·intro h0; have := hm; rw [h0] at this; exact Nat.eq_of_beq_eq_true (this.trans (by rfl))
    omega
   have key2 : ∀ m : Nat, Nat.beq (m % 2) 0 ≠ Nat.beq (k % 2) 0 → m ≠ k := by
    intro m hm e; exact hm (by rw [e])
   cases t with
   | leaf =>
    cases hb : Nat.beq (k % 2) 0 <;> cases m with
    | zero => simp [T.set_0, T.set_lz, T.set_nz, T.set_ls, T.set_ns, T.get_l, T.get_z, T.get_s, hb]
    | succ m =>
     cases hm : Nat.beq (m % 2) 0 <;> simp [T.set_0, T.set_lz, T.set_nz, T.set_ls, T.set_ns, T.get_l, T.get_z, T.get_s, hb, hm, ih _ _ _ _ hk, T.get_leaf]
     all_goals first
      | (have := key m (by rw [hb, hm]); simp [this]; done)
      | (have := key2 m (by rw [hb, hm]; simp); simp [this]; done)
   | node l v r =>
    cases hb : Nat.beq (k % 2) 0 <;> cases m with
    | zero => simp [T.set_0, T.set_lz, T.set_nz, T.set_ls, T.set_ns, T.get_l, T.get_z, T.get_s, hb]
    | succ m =>
     cases hm : Nat.beq (m % 2) 0 <;> simp [T.set_0, T.set_lz, T.set_nz, T.set_ls, T.set_ns, T.get_l, T.get_z, T.get_s, hb, hm, ih _ _ _ _ hk]
     all_goals first
      | (have := key m (by rw [hb, hm]); simp [this]; done)
      | (have := key2 m (by rw [hb, hm]; simp); simp [this]; done)
theorem T.get_del {α : Type} : ∀ (t : T α) (n m : Nat), (t.del n).get m = if m = n then none else t.get m := by
 intro t
 induction t with
 | leaf => intro n m; simp [T.del, T.get_leaf]
 | node l v r ihl ihr =>
  intro n m
  cases n with
  | zero => cases m <;> simp [T.del, T.get_l, T.get_z, T.get_s]
  | succ k =>
   have key : ∀ (m : Nat), Nat.beq (m % 2) 0 = Nat.beq (k % 2) 0 → (m / 2 = k / 2 ↔ m = k) := by
    intro m hm
    have e : (m % 2 = 0) ↔ (k % 2 = 0) := by
     constructor
     ·intro h0; have := hm; rw [h0] at this; exact Nat.eq_of_beq_eq_true (this.symm.trans (by rfl))
     ·intro h0; have := hm; rw [h0] at this; exact Nat.eq_of_beq_eq_true (this.trans (by rfl))
    omega
   have key2 : ∀ m : Nat, Nat.beq (m % 2) 0 ≠ Nat.beq (k % 2) 0 → m ≠ k := by
    intro m hm e; exact hm (by rw [e])
   cases hb : Nat.beq (k % 2) 0 <;> cases m with
   | zero => simp [T.del, T.get_l, T.get_z, T.get_s, hb]
   | succ m =>
    cases hm : Nat.beq (m % 2) 0 <;> simp [T.del, T.get_l, T.get_z, T.get_s, hb, hm, ihl, ihr]
    all_goals first
     | (have := key m (by rw [hb, hm]); simp [this]; done)
     | (have := key2 m (by rw [hb, hm]; simp); simp [this]; done)
theorem fu_lim {n : Nat} (h : n < lim) : n + 1 < 2 ^ fu := by unfold lim at h; unfold fu; omega
theorem seq_iff : ∀ (a b : List Nat), seq a b = true ↔ a = b
 | [], [] => by simp [seq]
 | a :: x, b :: y => by
  simp only [seq, Bool.and_eq_true, seq_iff x y, List.cons.injEq]
  exact ⟨fun ⟨h, k⟩ => ⟨Nat.eq_of_beq_eq_true h, k⟩, fun ⟨h, k⟩ => ⟨by rw [h]; exact Nat.beq_refl b, k⟩⟩
 | [], _ :: _ => by simp [seq]
 | _ :: _, [] => by simp [seq]
structure Place where
 blk : Nat
 off : Nat
 ext : Nat
abbrev Env := Nat → Option Place
def Env.le (E E' : Env) : Prop := ∀ b p, E b = some p → E' b = some p
theorem Env.le_refl (E : Env) : E.le E := fun _ _ h => h
theorem Env.le.trans {E E' E'' : Env} (h : E.le E') (k : E'.le E'') : E.le E'' := fun b p hb => k b p (h b p hb)
mutual
inductive AR (E : Env) : V → Value → Prop where
 | bool (b : Bool) : AR E (.bool b) (.bool b)
 | int (k : IntKind) (n : Int) : AR E (.int k n) (.int k n)
 | str (s : List Nat) (x : ByteArray) (h : x.data.toList.map UInt8.toNat = s) : AR E (.str s) (.string x)
 | nilp : AR E .nilp (.pointer none)
 | ptr (b o : Nat) (p : Place) (h : E b = some p) : AR E (.ptr b o) (.pointer (some ⟨p.blk, p.off + o, none⟩))
 | nils : AR E .nils (.slice none 0 0)
 | sl (b o n : Nat) (p : Place) (c : Nat) (h : E b = some p) (hn : n ≤ c) : AR E (.sl b o n (.ex c)) (.slice (some ⟨p.blk, p.off + o, none⟩) n c)
 | slo (b o n z : Nat) (p : Place) (c : Nat) (h : E b = some p) (hc : o + c * z = p.ext) (hn : n ≤ c) : AR E (.sl b o n (.op z)) (.slice (some ⟨p.blk, p.off + o, none⟩) n c)
 | sl0 (b o : Nat) (c : Cp) (a : Addr) (hc : ∀ k, c = .ex k → k = 0) (p : Place) (h : E b = some p) (hz : ∀ z, c = .op z → p.ext ≤ o) : AR E (.sl b o 0 c) (.slice (some a) 0 0)
 | nilm : AR E .nilm (.map none)
 | map (r : Nat) (p : Place) (h : E r = some p) : AR E (.map r) (.map (some p.blk))
 | fn (f : FuncId) (a c : List V) (a' c' : Array Value) (ha : ARs E a a'.toList) (hc : ARs E c c'.toList) : AR E (.fn (.func f) a c) (.func (.func f) a' c')
 | yld (l : Nat) (p : Place) (h : E l = some p) : AR E (.fn (.yield l) [] []) (.func (.yield p.blk) #[] #[])
 | nilf : AR E .nilf .nilFunc
 | iface (t : Nat) (v : V) (v' : Value) (h : AR E v v') : AR E (.iface t v) (.iface t v')
 | nili : AR E .nili .nilIface
 | agg (l : List V) (cs : Array Value) (h : ARs E l cs.toList) : AR E (.agg l) (.agg cs)
 | tup (l : List V) (cs : Array Value) (h : ARs E l cs.toList) : AR E (.tup l) (.tuple cs)
inductive ARs (E : Env) : List V → List Value → Prop where
 | nil : ARs E [] []
 | cons (v : V) (v' : Value) (l : List V) (l' : List Value) (h : AR E v v') (t : ARs E l l') : ARs E (v :: l) (v' :: l')
end
mutual
theorem AR.mono {E E' : Env} (h : E.le E') : ∀ {v : V} {v' : Value}, AR E v v' → AR E' v v'
 | _, _, .bool b => .bool b
 | _, _, .int k n => .int k n
 | _, _, .str s x e => .str s x e
 | _, _, .nilp => .nilp
 | _, _, .ptr b o p e => .ptr b o p (h _ _ e)
 | _, _, .nils => .nils
 | _, _, .sl b o n p c e hn => .sl b o n p c (h _ _ e) hn
 | _, _, .slo b o n z p c e hc hn => .slo b o n z p c (h _ _ e) hc hn
 | _, _, .sl0 b o c a hc p e hz => .sl0 b o c a hc p (h _ _ e) hz
 | _, _, .nilm => .nilm
 | _, _, .map r p e => .map r p (h _ _ e)
 | _, _, .fn f a c a' c' ha hc => .fn f a c a' c' (ARs.mono h ha) (ARs.mono h hc)
 | _, _, .yld l p e => .yld l p (h _ _ e)
 | _, _, .nilf => .nilf
 | _, _, .iface t v v' e => .iface t v v' (AR.mono h e)
 | _, _, .nili => .nili
 | _, _, .agg l cs e => .agg l cs (ARs.mono h e)
 | _, _, .tup l cs e => .tup l cs (ARs.mono h e)
theorem ARs.mono {E E' : Env} (h : E.le E') : ∀ {l : List V} {l' : List Value}, ARs E l l' → ARs E' l l'
 | _, _, .nil => .nil
 | _, _, .cons v v' l l' e t => .cons v v' l l' (AR.mono h e) (ARs.mono h t)
end
theorem ARs.length {E : Env} : ∀ {l : List V} {l' : List Value}, ARs E l l' → l.length = l'.length
 | _, _, .nil => rfl
 | _, _, .cons v v' l l' e t => by simp [ARs.length t]
theorem ARs.get {E : Env} : ∀ {l : List V} {l' : List Value}, ARs E l l' → ∀ (i : Nat) (v : V), l[i]? = some v → ∃ v', l'[i]? = some v' ∧ AR E v v'
 | _, _, .nil, i, v, h => by simp at h
 | _, _, .cons a a' l l' e t, 0, v, h => by simp at h; subst h; exact ⟨a', rfl, e⟩
 | _, _, .cons a a' l l' e t, i + 1, v, h => by simpa using ARs.get t i v (by simpa using h)
theorem ARs.append {E : Env} : ∀ {l m : List V} {l' m' : List Value}, ARs E l l' → ARs E m m' → ARs E (l ++ m) (l' ++ m')
 | _, _, _, _, .nil, h => h
 | _, _, _, _, .cons v v' l l' e t, h => .cons v v' _ _ e (ARs.append t h)
theorem ARs.take {E : Env} : ∀ (n : Nat) {l : List V} {l' : List Value}, ARs E l l' → ARs E (l.take n) (l'.take n)
 | 0, _, _, _ => by simpa using .nil
 | n + 1, _, _, .nil => .nil
 | n + 1, _, _, .cons v v' l l' e t => .cons v v' _ _ e (ARs.take n t)
theorem ARs.drop {E : Env} : ∀ (n : Nat) {l : List V} {l' : List Value}, ARs E l l' → ARs E (l.drop n) (l'.drop n)
 | 0, _, _, h => h
 | n + 1, _, _, .nil => .nil
 | n + 1, _, _, .cons v v' l l' e t => ARs.drop n t
theorem ARs.of_get {E : Env} : ∀ {l : List V} {l' : List Value}, l.length = l'.length → (∀ (i : Nat) (v : V), l[i]? = some v → ∃ v', l'[i]? = some v' ∧ AR E v v') → ARs E l l'
 | [], [], _, _ => .nil
 | v :: l, v' :: l', h, g => by
  obtain ⟨u, hu, hr⟩ := g 0 v rfl
  simp at hu; subst hu
  exact .cons v v' l l' hr (ARs.of_get (by simpa using h) fun i x hx => by simpa using g (i + 1) x (by simpa using hx))
theorem AR.isCell {E : Env} {v : V} {v' : Value} (h : AR E v v') (hc : v.isCell = true) : (∀ l, v' ≠ .agg l) ∧ ∀ l, v' ≠ .tuple l := by
 cases h <;> simp [V.isCell] at hc <;> exact ⟨(fun _ e => by cases e), (fun _ e => by cases e)⟩
theorem AR.cells {E : Env} {v : V} {v' : Value} (h : AR E v v') : ARs E v.cells v'.cells.toList := by
 cases h with
 | agg l cs h => exact h
 | bool b => exact .cons _ _ _ _ (.bool b) .nil
 | int k n => exact .cons _ _ _ _ (.int k n) .nil
 | str s x e => exact .cons _ _ _ _ (.str s x e) .nil
 | nilp => exact .cons _ _ _ _ .nilp .nil
 | ptr b o p e => exact .cons _ _ _ _ (.ptr b o p e) .nil
 | nils => exact .cons _ _ _ _ .nils .nil
 | sl b o n p c e hn => exact .cons _ _ _ _ (.sl b o n p c e hn) .nil
 | slo b o n z p c e hc hn => exact .cons _ _ _ _ (.slo b o n z p c e hc hn) .nil
 | sl0 b o c a hc p e hz => exact .cons _ _ _ _ (.sl0 b o c a hc p e hz) .nil
 | nilm => exact .cons _ _ _ _ .nilm .nil
 | map r p e => exact .cons _ _ _ _ (.map r p e) .nil
 | fn f a c a' c' ha hc => exact .cons _ _ _ _ (.fn f a c a' c' ha hc) .nil
 | yld l p e => exact .cons _ _ _ _ (.yld l p e) .nil
 | nilf => exact .cons _ _ _ _ .nilf .nil
 | iface t v v' e => exact .cons _ _ _ _ (.iface t v v' e) .nil
 | nili => exact .cons _ _ _ _ .nili .nil
 | tup l cs e => exact .cons _ _ _ _ (.tup l cs e) .nil
def TR (E : Env) (nt : Nat) (tm : T V) (tmps : Array Value) : Prop :=
 tmps.size = nt ∧ ∀ t v, tm.get t = some v → ∃ v', tmps[t]? = some v' ∧ AR E v v'
theorem TR.mono {E E' : Env} {nt : Nat} {tm : T V} {tmps : Array Value} (h : E.le E') (r : TR E nt tm tmps) : TR E' nt tm tmps :=
 ⟨r.1, fun t v ht => let ⟨v', a, b⟩ := r.2 t v ht; ⟨v', a, b.mono h⟩⟩
inductive ADR (E : Env) : AD → Deferred → Prop where
 | call (f : FuncId) (c a : List V) (c' a' : Array Value) (hc : ARs E c c'.toList) (ha : ARs E a a'.toList) : ADR E (.call ⟨.func f, c, a⟩) { target := .fn (.func f) c', args := a' }
 | collected (r : Nat) (p : Place) (h : E r = some p) : ADR E (.collected r) { target := .collected p.blk, args := #[] }
theorem ADR.mono {E E' : Env} {d : AD} {d' : Deferred} (h : E.le E') (r : ADR E d d') : ADR E' d d' := by
 cases r with
 | call f c a c' a' hc ha => exact .call f c a c' a' (hc.mono h) (ha.mono h)
 | collected r p e => exact .collected r p (h _ _ e)
inductive All₂ {α β : Type} (R : α → β → Prop) : List α → List β → Prop where
 | nil : All₂ R [] []
 | cons {a : α} {b : β} {l : List α} {m : List β} (h : R a b) (t : All₂ R l m) : All₂ R (a :: l) (b :: m)
theorem All₂.mono {α β : Type} {R S : α → β → Prop} (h : ∀ a b, R a b → S a b) : ∀ {l : List α} {m : List β}, All₂ R l m → All₂ S l m
 | _, _, .nil => .nil
 | _, _, .cons r t => .cons (h _ _ r) (All₂.mono h t)
theorem All₂.length {α β : Type} {R : α → β → Prop} : ∀ {l : List α} {m : List β}, All₂ R l m → l.length = m.length
 | _, _, .nil => rfl
 | _, _, .cons r t => by simp [All₂.length t]
theorem All₂.append {α β : Type} {R : α → β → Prop} : ∀ {l l' : List α} {m m' : List β}, All₂ R l m → All₂ R l' m' → All₂ R (l ++ l') (m ++ m')
 | _, _, _, _, .nil, h => h
 | _, _, _, _, .cons r t, h => .cons r (All₂.append t h)
def ObjR (E : Env) (o : Obj) (p : Place) (w : World) : Prop :=
 match o with
 | .cells _ cs => ∃ c el lo hi, w.heap[p.blk]? = some (.cells c el (lo, hi)) ∧ (∀ i, i < c.size → ¬ (lo ≤ i ∧ i < hi)) ∧ p.off + p.ext ≤ c.size ∧ cs.length ≤ p.ext ∧
   ∀ (i : Nat) (v : V), cs[i]? = some v → v.isCell = true ∧ ∃ v', c[p.off + i]? = some v' ∧ AR E v v'
 | .map es => ∃ ents clock, w.heap[p.blk]? = some (.map ents clock) ∧ All₂ (fun (e : V × V) (m : MapEntry) => AR E e.1 m.key ∧ AR E e.2 m.val) es ents.toList
 | .loop l => ∃ L, w.heap[p.blk]? = some (.loop L) ∧ L.state = l.state ∧ L.pending = l.pending ∧ L.fn = l.fn ∧ L.params.toList = l.params ∧ L.assign = l.assign ∧ L.body = l.body ∧ TR E l.nt l.tmps L.tmps
 | .dfr none => ∃ c, w.heap[p.blk]? = some (.deferred c)
 | .dfr (some ds) => ∃ c, w.heap[p.blk]? = some (.deferred (some c)) ∧ All₂ (ADR E) ds c
 | .siter s pos => ∃ x, w.heap[p.blk]? = some (.stringIter x pos) ∧ x.data.toList.map UInt8.toNat = s
theorem ObjR.mono {E E' : Env} {o : Obj} {p : Place} {w : World} (h : E.le E') (r : ObjR E o p w) : ObjR E' o p w := by
 cases o with
 | cells opn cs =>
  obtain ⟨c, el, lo, hi, h1, h2, h3, h4, h5⟩ := r
  exact ⟨c, el, lo, hi, h1, h2, h3, h4, fun i v hv => let ⟨a, v', b, c⟩ := h5 i v hv; ⟨a, v', b, c.mono h⟩⟩
 | map es =>
  obtain ⟨ents, clock, h1, h2⟩ := r
  exact ⟨ents, clock, h1, h2.mono fun _ _ ⟨a, b⟩ => ⟨a.mono h, b.mono h⟩⟩
 | loop l =>
  obtain ⟨L, h1, h2, h3, h4, h5, h6, h7, h8⟩ := r
  exact ⟨L, h1, h2, h3, h4, h5, h6, h7, h8.mono h⟩
 | dfr c =>
  cases c with
  | none => exact r
  | some ds => obtain ⟨c, h1, h2⟩ := r; exact ⟨c, h1, h2.mono fun _ _ => ADR.mono h⟩
 | siter s pos => exact r
theorem ObjR.world {E : Env} {o : Obj} {p : Place} {w w' : World} (h : w'.heap[p.blk]? = w.heap[p.blk]?) (r : ObjR E o p w) : ObjR E o p w' := by
 cases o with
 | cells opn cs => simpa only [ObjR, h] using r
 | map es => simpa only [ObjR, h] using r
 | loop l => simpa only [ObjR, h] using r
 | dfr c => cases c <;> simpa only [ObjR, h] using r
 | siter s pos => simpa only [ObjR, h] using r
structure MR (E : Env) (h : H) (w0 w : World) : Prop where
 below : Below w0.heap.size w0 w
 fresh : ∀ b, h.nxt ≤ b → E b = none ∧ h.get b = none
 glo : glim ≤ h.nxt
 lim : h.nxt ≤ lim
 obj : ∀ b o p, h.get b = some o → E b = some p → ObjR E o p w
 glb : ∀ b o, b < glim → h.get b = some o → ∃ op cs, o = .cells op cs
 own : ∀ b p, glim ≤ b → E b = some p → w0.heap.size ≤ p.blk
 lt : ∀ b p, E b = some p → p.blk < w.heap.size
 apart : ∀ b b' o o' p p', b ≠ b' → h.get b = some o → h.get b' = some o' → E b = some p → E b' = some p' → p.blk ≠ p'.blk
theorem MR.nxt_of {E : Env} {h : H} {w0 w : World} (m : MR E h w0 w) {b : Nat} {o : Obj} (hb : h.get b = some o) : b < h.nxt := by
 rcases Nat.lt_or_ge b h.nxt with g | g
 ·exact g
 ·have := (m.fresh b g).2; rw [this] at hb; cases hb
theorem MR.env_of {E : Env} {h : H} {w0 w : World} (m : MR E h w0 w) {b : Nat} {p : Place} (hb : E b = some p) : b < h.nxt := by
 rcases Nat.lt_or_ge b h.nxt with g | g
 ·exact g
 ·have := (m.fresh b g).1; rw [this] at hb; cases hb
structure Ext (E : Env) (h : H) (E' : Env) (h' : H) : Prop where
 le : E.le E'
 old : ∀ b, b < h.nxt → E' b = E b
 nxt : h.nxt ≤ h'.nxt
 ghost : ∀ b, b < h.nxt → E b = none → h'.get b = h.get b
theorem Ext.refl (E : Env) (h : H) : Ext E h E h := ⟨Env.le_refl E, fun _ _ => rfl, Nat.le_refl _, fun _ _ _ => rfl⟩
theorem Ext.trans {E E' E'' : Env} {h h' h'' : H} (x : Ext E h E' h') (y : Ext E' h' E'' h'') : Ext E h E'' h'' :=
 ⟨x.le.trans y.le, fun b hb => (y.old b (Nat.lt_of_lt_of_le hb x.nxt)).trans (x.old b hb), Nat.le_trans x.nxt y.nxt,
  fun b hb he => (y.ghost b (Nat.lt_of_lt_of_le hb x.nxt) ((x.old b hb).trans he)).trans (x.ghost b hb he)⟩
end
end Go.AM
end
section
/- The abstract machine: what loads, stores and new objects do to the relation. -/
set_option linter.unusedVariables false
set_option linter.unusedSimpArgs false
namespace Go.AM
noncomputable section
open Go.RowKit
variable {P : Program}
theorem add_zero (B O i : Nat) : (⟨B, O, none⟩ : Addr).add i = ⟨B, O + i, none⟩ := by
 unfold Addr.add; split <;> simp_all
theorem cell_of {w : World} {B : Nat} {c : Array Value} {el : TypeId} {fz : Nat × Nat} (h : w.heap[B]? = some (.cells c el fz)) (i : Nat) :
  w.cell? ⟨B, i, none⟩ = c[i]? := by simp [World.cell?, h]
theorem frozen_of {w : World} {B : Nat} {c : Array Value} {el : TypeId} {lo hi : Nat} (h : w.heap[B]? = some (.cells c el (lo, hi))) (hf : ∀ i, i < c.size → ¬ (lo ≤ i ∧ i < hi)) (i : Nat) (hi' : i < c.size) :
  w.frozen? ⟨B, i, none⟩ = false := by
 have := hf i hi'
 simp only [World.frozen?, h]
 rw [Bool.eq_false_iff]
 intro hc
 simp only [Bool.and_eq_true, decide_eq_true_eq] at hc
 exact this hc
def writeAt (c : Array Value) : Nat → List Value → Array Value
 | _, [] => c
 | o, v :: r => writeAt (c.setIfInBounds o v) (o + 1) r
theorem writeAt_size : ∀ (vs : List Value) (c : Array Value) (o : Nat), (writeAt c o vs).size = c.size
 | [], _, _ => rfl
 | v :: r, c, o => by rw [writeAt, writeAt_size r]; simp
theorem writeAt_out : ∀ (vs : List Value) (c : Array Value) (o i : Nat), (i < o ∨ o + vs.length ≤ i) → (writeAt c o vs)[i]? = c[i]?
 | [], _, _, _, _ => rfl
 | v :: r, c, o, i, h => by
  rw [writeAt, writeAt_out r _ _ _ (by simp at h; omega), Array.getElem?_setIfInBounds]
  rw [if_neg (by simp at h; omega)]
theorem writeAt_in : ∀ (vs : List Value) (c : Array Value) (o j : Nat), j < vs.length → o + j < c.size → (writeAt c o vs)[o + j]? = vs[j]?
 | v :: r, c, o, 0, h, hs => by
  rw [writeAt, writeAt_out r _ _ _ (by omega), Array.getElem?_setIfInBounds]
  simp at hs
  simp [hs]
 | v :: r, c, o, j + 1, h, hs => by
  rw [writeAt, show o + (j + 1) = o + 1 + j from by omega, writeAt_in r _ _ j (by simpa using h) (by simp; omega)]
  simp
theorem setCell_heap {w : World} {B : Nat} {c : Array Value} {el : TypeId} {fz : Nat × Nat} (h : w.heap[B]? = some (.cells c el fz)) (o : Nat) (v : Value) :
  (w.setCell ⟨B, o, none⟩ v).heap[B]? = some (.cells (c.setIfInBounds o v) el fz) := by
 simp [World.setCell, Array.getElem?_modify, h]
theorem setCells_heap (B : Nat) : ∀ (vs : List Value) (w : World) (c : Array Value) (el : TypeId) (fz : Nat × Nat) (o : Nat), w.heap[B]? = some (.cells c el fz) →
  (w.setCells B o vs).heap[B]? = some (.cells (writeAt c o vs) el fz)
 | [], _, _, _, _, _, h => h
 | v :: r, w, c, el, fz, o, h => by
  rw [World.setCells, writeAt]
  exact setCells_heap B r _ _ _ _ _ (setCell_heap h o v)
theorem setCells_other (B : Nat) : ∀ (vs : List Value) (w : World) (o k : Nat), k ≠ B → (w.setCells B o vs).heap[k]? = w.heap[k]?
 | [], _, _, _, _ => rfl
 | v :: r, w, o, k, h => by
  rw [World.setCells, setCells_other B r _ _ _ h]
  simp [World.setCell, Array.getElem?_modify]
  intro e; exact absurd e.symm h
theorem setCells_rest (B : Nat) : ∀ (vs : List Value) (w : World) (o : Nat), (w.setCells B o vs).heap.size = w.heap.size ∧ (w.setCells B o vs).os = w.os ∧ (w.setCells B o vs).tape = w.tape ∧ (w.setCells B o vs).output = w.output
 | [], _, _ => ⟨rfl, rfl, rfl, rfl⟩
 | v :: r, w, o => by
  obtain ⟨a, b, c, d⟩ := setCells_rest B r (w.setCell ⟨B, o, none⟩ v) (o + 1)
  rw [World.setCells]
  refine ⟨a.trans ?_, b, c, d⟩
  simp [World.setCell]
theorem rd_sound {E : Env} {h : H} {w0 w : World} (m : MR E h w0 w) {b o : Nat} {v : V} {p : Place} (hp : E b = some p) (hr : h.rd b o = some v) :
  ∃ v', w.cell? ⟨p.blk, p.off + o, none⟩ = some v' ∧ AR E v v' ∧ v.isCell = true := by
 unfold H.rd at hr
 split at hr
 ·rename_i op cs hb
  obtain ⟨c, el, lo, hi, h1, h2, h3, h4, h5⟩ := m.obj b _ p hb hp
  obtain ⟨hc, v', hv, ha⟩ := h5 o v hr
  exact ⟨v', by rw [cell_of h1]; exact hv, ha, hc⟩
 ·cases hr
theorem rdN_sound {E : Env} {h : H} {w0 w : World} (m : MR E h w0 w) {b o n : Nat} {l : List V} {p : Place} (hp : E b = some p) (hr : h.rdN b o n = some l) :
  ∃ l' : List Value, (loadCells ⟨p.blk, p.off + o, none⟩ n).run P w = .ok l'.toArray w ∧ ARs E l l' ∧ l.length = n ∧ l.all V.isCell = true ∧ ∀ (j : Nat) (v : Value), l'[j]? = some v → w.cell? ⟨p.blk, p.off + o + j, none⟩ = some v := by
 unfold H.rdN at hr
 split at hr
 ·rename_i op cs hb
  split at hr
  ·rename_i hle
   cases hr
   obtain ⟨c, el, lo, hi, h1, h2, h3, h4, h5⟩ := m.obj b _ p hb hp
   have hlen : ((cs.drop o).take n).length = n := by simp; omega
   let l' : List Value := (List.range n).map fun j => (c[p.off + (o + j)]?).getD undef
   have hg : ∀ j, j < n → ∃ v', c[p.off + (o + j)]? = some v' := by
    intro j hj
    obtain ⟨v, hv⟩ : ∃ v, cs[o + j]? = some v := ⟨cs[o + j], by simp⟩
    obtain ⟨_, v', hv', _⟩ := h5 (o + j) v hv
    exact ⟨v', hv'⟩
   have hl' : ∀ (j : Nat) (v : Value), l'[j]? = some v → w.cell? ⟨p.blk, p.off + o + j, none⟩ = some v := by
    intro j v hv
    have hj : j < n := by
     rcases Nat.lt_or_ge j n with g | g
     ·exact g
     ·simp [l', g] at hv
    obtain ⟨v', hv'⟩ := hg j hj
    simp [l', hj, hv'] at hv
    rw [cell_of h1, Nat.add_assoc, hv', hv]
   have hlen' : l'.length = n := by simp [l']
   refine ⟨l', ?_, ?_, hlen, ?_, hl'⟩
   ·have := run_loadCells_list (P := P) w ⟨p.blk, p.off + o, none⟩ l' (fun j v hv => by rw [add_zero]; exact hl' j v hv)
    rwa [hlen'] at this
   ·refine ARs.of_get (by rw [hlen, hlen']) fun i v hv => ?_
    have hi' : i < n := by
     rcases Nat.lt_or_ge i n with g | g
     ·exact g
     ·rw [List.getElem?_eq_none (by omega)] at hv; cases hv
    rw [List.getElem?_take, if_pos hi', List.getElem?_drop] at hv
    obtain ⟨_, v', hv', ha⟩ := h5 (o + i) v hv
    exact ⟨v', by simp [l', hi', hv'], ha⟩
   ·rw [List.all_eq_true]
    intro x hx
    obtain ⟨i, hi⟩ := List.mem_iff_getElem?.1 (List.mem_of_mem_drop (List.mem_of_mem_take hx))
    exact (h5 i x hi).1
  ·cases hr
 ·cases hr
theorem H.get_put {h : H} {b : Nat} {o : Obj} (hb : b < lim) (k : Nat) : (h.put b o).get k = if k = b then some o else h.get k := by
 unfold H.put H.get; exact T.get_set _ _ _ _ _ (fu_lim hb)
theorem H.get_kill {h : H} {b : Nat} (k : Nat) : (h.kill b).get k = if k = b then none else h.get k := by
 unfold H.kill H.get; exact T.get_del _ _ _
theorem put_sound {E : Env} {h : H} {w0 w w1 : World} (m : MR E h w0 w) {b : Nat} {old new : Obj} {p : Place} (hb : h.get b = some old) (hp : E b = some p) (hg : glim ≤ b)
  (hother : ∀ k, k ≠ p.blk → w1.heap[k]? = w.heap[k]?) (hsize : w1.heap.size = w.heap.size) (hos : w1.os = w.os) (htape : w1.tape = w.tape) (hout : w1.output = w.output)
  (hobj : ObjR E new p w1) : MR E (h.put b new) w0 w1 ∧ Ext E h E (h.put b new) := by
 have hbn := m.nxt_of hb
 have hbl : b < lim := Nat.lt_of_lt_of_le hbn m.lim
 have hown := m.own b p hg hp
 refine ⟨⟨⟨hos.trans m.below.os, htape.trans m.below.tape, hout.trans m.below.output, by rw [hsize]; exact m.below.size, fun k hk => ?_⟩, fun k hk => ?_, m.glo, m.lim, fun k o q hk hq => ?_, fun k o hk ho => ?_, m.own, fun k q hq => by rw [hsize]; exact m.lt k q hq, fun k k' o o' q q' hne hk hk' hq hq' => ?_⟩,
  Env.le_refl E, fun _ _ => rfl, Nat.le_refl _, fun k hk he => ?_⟩
 ·rw [hother k (by omega)]; exact m.below.block k hk
 ·refine ⟨(m.fresh k hk).1, ?_⟩
  rw [H.get_put hbl, if_neg (by have : h.nxt ≤ k := hk; omega)]
  exact (m.fresh k hk).2
 ·rw [H.get_put hbl] at hk
  split at hk
  ·rename_i e; subst e; cases hk; rw [hp] at hq; cases hq; exact hobj
  ·rename_i e
   exact (m.obj k o q hk hq).world (hother _ (m.apart k b o old q p e hk hb hq hp))
 ·rw [H.get_put hbl, if_neg (by omega)] at ho
  exact m.glb k o hk ho
 ·have f : ∀ k o, (h.put b new).get k = some o → ∃ o', h.get k = some o' := by
   intro k o hk
   rw [H.get_put hbl] at hk
   split at hk
   ·rename_i e; subst e; exact ⟨_, hb⟩
   ·exact ⟨_, hk⟩
  obtain ⟨u, hu⟩ := f k o hk
  obtain ⟨u', hu'⟩ := f k' o' hk'
  exact m.apart k k' u u' q q' hne hu hu' hq hq'
 ·rw [H.get_put hbl, if_neg]
  rintro rfl; rw [hp] at he; cases he
theorem wrN_sound {E : Env} {h h' : H} {w0 w : World} (m : MR E h w0 w) {b o : Nat} {vs : List V} {vs' : List Value} {p : Place} (hw : h.wrN b o vs = some h') (hp : E b = some p) (hv : ARs E vs vs') :
  (storeCells ⟨p.blk, p.off + o, none⟩ vs').run P w = .ok () (w.setCells p.blk (p.off + o) vs') ∧ MR E h' w0 (w.setCells p.blk (p.off + o) vs') ∧ Ext E h E h' := by
 unfold H.wrN at hw
 split at hw
 ·rename_i op cs hb
  split at hw
  ·rename_i hc
   obtain ⟨hle, hall, hg⟩ := hc
   cases hw
   obtain ⟨c, el, lo, hi, h1, h2, h3, h4, h5⟩ := m.obj b _ p hb hp
   have hlen := hv.length
   have hone : ∀ v ∈ vs', v.oneCell' = true := by
    intro v hmem
    obtain ⟨i, hi⟩ := List.mem_iff_getElem?.1 hmem
    have hilt : i < vs.length := by rw [hlen]; exact (List.getElem?_eq_some_iff.1 hi).1
    obtain ⟨v', hv', ha⟩ := hv.get i vs[i] (by simp)
    rw [hi] at hv'; cases hv'
    have hcell := (List.all_eq_true.1 hall) vs[i] (List.getElem_mem _)
    obtain ⟨n1, n2⟩ := ha.isCell hcell
    cases v <;> first | rfl | exact absurd rfl (n1 _) | exact absurd rfl (n2 _)
   have hin : ∀ j, j < vs'.length → p.off + o + j < c.size := by intro j hj; omega
   have hcell : ∀ j, j < vs'.length → (w.cell? ⟨p.blk, p.off + o + 0 + j, none⟩).isSome = true := by
    intro j hj; rw [cell_of h1]; have := hin j hj; simp; omega
   have hfr : ∀ j, j < vs'.length → w.frozen? ⟨p.blk, p.off + o + 0 + j, none⟩ = false := by
    intro j hj; exact frozen_of h1 h2 _ (by have := hin j hj; omega)
   have hrun := run_storeCells_cells (P := P) p.blk (p.off + o) vs' 0 w hcell hfr hone
   obtain ⟨r1, r2, r3, r4⟩ := setCells_rest p.blk vs' w (p.off + o)
   refine ⟨hrun, ?_⟩
   refine put_sound m hb hp hg (fun k hk => setCells_other _ _ _ _ _ hk) r1 r2 r3 r4 ?_
   refine ⟨writeAt c (p.off + o) vs', el, lo, hi, setCells_heap _ _ _ _ _ _ _ h1, fun i hi => h2 i (by rwa [writeAt_size] at hi), by rw [writeAt_size]; exact h3, by simp; omega, fun i v hv' => ?_⟩
   by_cases hi1 : i < o
   ·have : cs[i]? = some v := by
     rw [List.append_assoc, List.getElem?_append_left (by simp; omega), List.getElem?_take, if_pos hi1] at hv'
     exact hv'
    obtain ⟨a1, v', a2, a3⟩ := h5 i v this
    exact ⟨a1, v', by rw [writeAt_out _ _ _ _ (by omega)]; exact a2, a3⟩
   ·by_cases hi2 : i < o + vs.length
    ·have hvi : vs[i - o]? = some v := by
      rw [List.append_assoc, List.getElem?_append_right (by simp; omega), List.getElem?_append_left (by simp; omega)] at hv'
      rwa [show i - (cs.take o).length = i - o by simp; omega] at hv'
     obtain ⟨v', b1, b2⟩ := hv.get (i - o) v hvi
     refine ⟨(List.all_eq_true.1 hall) v (List.mem_of_getElem? hvi), v', ?_, b2⟩
     have := writeAt_in vs' c (p.off + o) (i - o) (by omega) (hin _ (by omega))
     rw [show p.off + o + (i - o) = p.off + i by omega] at this
     rw [this, b1]
    ·have : cs[i]? = some v := by
      rw [List.getElem?_append_right (by simp; omega), List.getElem?_drop] at hv'
      rwa [show o + vs.length + (i - (cs.take o ++ vs).length) = i by simp; omega] at hv'
     obtain ⟨a1, v', a2, a3⟩ := h5 i v this
     exact ⟨a1, v', by rw [writeAt_out _ _ _ _ (by omega)]; exact a2, a3⟩
  ·cases hw
 ·cases hw
def upd (E : Env) (b : Nat) (p : Place) : Env := fun k => if k = b then some p else E k
theorem upd_le {E : Env} {b : Nat} {p : Place} (h : E b = none) : E.le (upd E b p) := by
 intro k q hk; unfold upd; split
 ·rename_i e; subst e; rw [h] at hk; cases hk
 ·exact hk
theorem ghost_new {E : Env} {h h' : H} {w0 w : World} (m : MR E h w0 w) {b : Nat} {o : Obj} (hn : h.new o = some (b, h')) :
  MR E h' w0 w ∧ Ext E h E h' ∧ E b = none ∧ h'.get b = some o ∧ b < h'.nxt ∧ glim ≤ b ∧ b = h.nxt := by
 unfold H.new at hn
 split at hn
 ·cases hn
 ·rename_i hl
  cases hn
  have hlt : h.nxt < lim := by
   rcases Nat.lt_or_ge h.nxt lim with g | g
   ·exact g
   ·rw [Nat.ble_eq_true_of_le g] at hl; cases hl
  have hget : ∀ k, H.get { nxt := h.nxt + 1, tr := h.tr.set fu h.nxt o } k = if k = h.nxt then some o else h.get k := by
   intro k; unfold H.get; exact T.get_set _ _ _ _ _ (fu_lim hlt)
  have hE := (m.fresh h.nxt (Nat.le_refl _)).1
  refine ⟨⟨m.below, fun k hk => ?_, Nat.le_succ_of_le m.glo, hlt, fun k u q hk hq => ?_, fun k u hk hu => ?_, m.own, m.lt, fun k k' u u' q q' hne hk hk' hq hq' => ?_⟩,
   ⟨Env.le_refl E, fun _ _ => rfl, Nat.le_succ _, fun k hk _ => ?_⟩, hE, ?_, Nat.lt_succ_self _, m.glo, rfl⟩
  ·have hk' : h.nxt + 1 ≤ k := hk
   refine ⟨(m.fresh k (by omega)).1, ?_⟩
   rw [hget, if_neg (by omega)]; exact (m.fresh k (by omega)).2
  ·rw [hget] at hk
   split at hk
   ·rename_i e; subst e; rw [hE] at hq; cases hq
   ·exact m.obj k u q hk hq
  ·rw [hget, if_neg (by have := m.glo; omega)] at hu; exact m.glb k u hk hu
  ·rw [hget] at hk hk'
   split at hk
   ·rename_i e; subst e; rw [hE] at hq; cases hq
   ·split at hk'
    ·rename_i e; subst e; rw [hE] at hq'; cases hq'
    ·exact m.apart k k' u u' q q' hne hk hk' hq hq'
  ·rw [hget, if_neg (by omega)]
  ·rw [hget, if_pos rfl]
theorem place_sound {E : Env} {h : H} {w0 w : World} (m : MR E h w0 w) {b : Nat} {p : Place} (hb : b < h.nxt) (hE : E b = none) (hg : glim ≤ b) (ob : Go.Obj) (hblk : p.blk = w.heap.size)
  (hobj : ∀ o, h.get b = some o → ObjR (upd E b p) o p { w with heap := w.heap.push ob }) :
  MR (upd E b p) h w0 { w with heap := w.heap.push ob } := by
 have hle := upd_le (p := p) hE
 have hold : ∀ k, k < w.heap.size → (w.heap.push ob)[k]? = w.heap[k]? := by
  intro k hk; rw [Array.getElem?_push, if_neg (by omega)]
 have hup : ∀ k q, upd E b p k = some q → k ≠ b → E k = some q := by
  intro k q hk hne; unfold upd at hk; rwa [if_neg hne] at hk
 have hub : ∀ q, upd E b p b = some q → q = p := by intro q hq; unfold upd at hq; rw [if_pos rfl] at hq; exact (Option.some.inj hq).symm
 refine ⟨⟨m.below.os, m.below.tape, m.below.output, by simpa using Nat.le_succ_of_le m.below.size, fun k hk => ?_⟩, fun k hk => ?_, m.glo, m.lim, fun k o q hk hq => ?_, m.glb, fun k q hk hq => ?_, fun k q hq => ?_, fun k k' o o' q q' hne hk hk' hq hq' => ?_⟩
 ·exact (hold k (Nat.lt_of_lt_of_le hk m.below.size)).trans (m.below.block k hk)
 ·refine ⟨?_, (m.fresh k hk).2⟩
  unfold upd; rw [if_neg (by omega)]; exact (m.fresh k hk).1
 ·by_cases e : k = b
  ·subst e; rw [hub q hq]; exact hobj o hk
  ·have hq' := hup k q hq e
   exact ((m.obj k o q hk hq').mono hle).world (hold _ (m.lt k q hq'))
 ·by_cases e : k = b
  ·subst e; rw [hub q hq, hblk]; exact m.below.size
  ·exact m.own k q hk (hup k q hq e)
 ·by_cases e : k = b
  ·subst e; rw [hub q hq, hblk]; simp
  ·have := m.lt k q (hup k q hq e); simp; omega
 ·by_cases e : k = b
  ·by_cases e' : k' = b
   ·exact absurd (e.trans e'.symm) hne
   ·subst e; rw [hub q hq, hblk]; exact Nat.ne_of_gt (m.lt k' q' (hup k' q' hq' e'))
  ·by_cases e' : k' = b
   ·subst e'; rw [hub q' hq', hblk]; exact Nat.ne_of_lt (m.lt k q (hup k q hq e))
   ·exact m.apart k k' o o' q q' hne hk hk' (hup k q hq e) (hup k' q' hq' e')
theorem kill_sound {E : Env} {h : H} {w0 w : World} (m : MR E h w0 w) {b : Nat} {p : Place} (hp : E b = some p) : MR E (h.kill b) w0 w ∧ Ext E h E (h.kill b) := by
 have f : ∀ k o, (h.kill b).get k = some o → h.get k = some o := by
  intro k o hk; rw [H.get_kill] at hk; split at hk
  ·cases hk
  ·exact hk
 refine ⟨⟨m.below, fun k hk => ⟨(m.fresh k hk).1, ?_⟩, m.glo, m.lim, fun k o q hk hq => m.obj k o q (f k o hk) hq, fun k o hk ho => m.glb k o hk (f k o ho), m.own, m.lt, fun k k' o o' q q' hne hk hk' hq hq' => m.apart k k' o o' q q' hne (f _ _ hk) (f _ _ hk') hq hq'⟩,
  Env.le_refl E, fun _ _ => rfl, Nat.le_refl _, fun k hk he => ?_⟩
 ·rw [H.get_kill]; split
  ·rfl
  ·exact (m.fresh k hk).2
 ·rw [H.get_kill, if_neg]; rintro rfl; rw [hp] at he; cases he
theorem MR.drawn {E : Env} {h : H} {w0 w : World} (m : MR E h w0 w) (n : Nat) : MR E h w0 { w with drawn := n } :=
 ⟨⟨m.below.os, m.below.tape, m.below.output, m.below.size, m.below.block⟩, m.fresh, m.glo, m.lim, fun b o p hb hp => (m.obj b o p hb hp).world rfl, m.glb, m.own, m.lt, m.apart⟩
end
end Go.AM
end
