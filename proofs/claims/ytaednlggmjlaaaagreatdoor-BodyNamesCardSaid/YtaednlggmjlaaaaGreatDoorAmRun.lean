/- The abstract machine: how it runs. -/
import Derived.Test.YtaednlggmjlaaaaGreatDoorAmCore
set_option linter.unusedVariables false
namespace Go.AM
noncomputable section

/-! ### equality of values, to look again -/
mutual
def V.beq : V → V → Bool
  | .bool a, .bool b => a == b
  | .int k a, .int k' b => decide (k = k') && a == b
  | .str a, .str b => seq a b
  | .nilp, .nilp => true
  | .ptr b o, .ptr b' o' => Nat.beq b b' && Nat.beq o o'
  | .nils, .nils => true
  | .sl b o n c, .sl b' o' n' c' => Nat.beq b b' && Nat.beq o o' && Nat.beq n n' && decide (c = c')
  | .nilm, .nilm => true
  | .map a, .map b => Nat.beq a b
  | .fn f a c, .fn f' a' c' => decide (f = f') && V.beqs a a' && V.beqs c c'
  | .nilf, .nilf => true
  | .iface t v, .iface t' v' => Nat.beq t t' && V.beq v v'
  | .nili, .nili => true
  | .agg a, .agg b => V.beqs a b
  | .tup a, .tup b => V.beqs a b
  | _, _ => false
def V.beqs : List V → List V → Bool
  | [], [] => true
  | a :: x, b :: y => V.beq a b && V.beqs x y
  | _, _ => false
end

structure PE where
  v : V
  recovered : Bool

inductive AMode where
  | ret
  | pan (chain : List PE)

structure S where
  tm : T V
  df : List AD
  u : Option AMode
  h : H

inductive X where
  | norm
  | exit (id : Nat)
  | ret
  | panic (chain : List PE)

inductive AEnd where
  | ret (v : V)
  | pan (chain : List PE)

structure Fr where
  nt : Nat
  rnd : Option Nat
  fid : FuncId

inductive Req where
  | code (fr : Fr) (c : Code) (s : S)
  | call (f : FuncId) (args : List V) (u : Option AMode) (h : H)
  | leave (fn : Func) (tm : T V) (df : List AD) (m : AMode) (u : Option AMode) (h : H)
  | round (l : Nat) (args : List V) (h : H)

inductive Res where
  | x (x : X) (s : S)
  | e (r : AEnd) (u : Option AMode) (h : H)

/-- a run's result, or where it stopped. -/
inductive M (α : Type) where
  | ok (a : α)
  | bad (f : Nat) (p : String)

structure Cfg where
  P : Program
  gl : List Nat
  ib : Option Nat

section
variable (C : Cfg) (rec : Req → M Res)

def putT (nt : Nat) (tm : T V) : Option Nat → V → Option (T V)
  | none, _ => some tm
  | some d, v => match Nat.blt d nt with
    | true => some (tm.set fu d v)
    | false => none

/-- what an operation comes to: a value, or a panic. -/
inductive OR where
  | val (v : V) (s : S)
  | pan (chain : List PE) (s : S)

def idxB (c : Nat) : List Nat → Nat → Option Nat
  | [], _ => none
  | b :: r, i => match Nat.beq b c with
    | true => some i
    | false => idxB c r (i + 1)

def Cfg.isIb (C : Cfg) (f : Nat) : Bool := match C.ib with | some i => Nat.beq f i | none => false

def callFn (f : Fn) (cap args : List V) (s : S) : M OR :=
  match f with
  | .func f => match C.isIb f, cap, args with
   | true, [], [.str b, .int .u8 (.ofNat c)] => if c < 256 then .ok (.val (.int .i64 (match idxB c b 0 with | some i => i | none => -1)) s) else .bad f "byte"
   | _, _, _ => match rec (.call f (args ++ cap) none s.h) with
    | .ok (.e (.ret v) _ h) => .ok (.val v { s with h })
    | .ok (.e (.pan ch) _ h) => .ok (.pan ch { s with h })
    | .bad f p => .bad f p
    | _ => .bad 0 "callFn"
  | .yield l => match rec (.round l args s.h) with
    | .ok (.e (.ret v) _ h) => .ok (.val v { s with h })
    | .ok (.e (.pan ch) _ h) => .ok (.pan ch { s with h })
    | .bad f p => .bad f p
    | _ => .bad 0 "callFn"
  | _ => .bad 0 "callFn: kind"

def delV (k : V) : List (V × V) → Option (List (V × V))
  | [] => some []
  | e :: es => match keyEq k e.1 with
    | some true => some es
    | some false => (delV k es).map (e :: ·)
    | none => none

def heavy (fr : Fr) (o : Oper) (s : S) : M OR :=
  let e := ev C.gl s.tm
  match o.op with
  | .call { callee := .value f, args, .. } =>
    match e f, evs C.gl s.tm args.toList with
    | some (.fn f first cap), some vs => callFn C rec f cap (first ++ vs) s
    | _, _ => .bad fr.fid o.pos
  | .call { callee := .builtin b, args, argTypes } =>
    match b, evs C.gl s.tm args.toList with
    | .append, some [x, y] => match aappend C.P s.h argTypes x y with
      | some (v, h) => .ok (.val v { s with h })
      | none => .bad fr.fid o.pos
    | .recover, some [] => match fr.rnd, s.u with
      | none, some (.pan (⟨v, false⟩ :: older)) => .ok (.val v { s with u := some (.pan (⟨v, true⟩ :: older)) })
      | none, _ => .ok (.val .nili s)
      | some _, _ => .bad fr.fid o.pos
    | .delete, some [.map r, k] => match (argTypes[0]?).bind C.P.underlying, s.h.get r with
      | some (.map kt _), some (.map es) => match keyOk C.P kt k, delV k es with
        | true, some es => .ok (.val (.tup []) { s with h := s.h.put r (.map es) })
        | _, _ => .bad fr.fid o.pos
      | _, _ => .bad fr.fid o.pos
    | .clear, some [x] => match (argTypes[0]?).bind C.P.underlying, x with
      | some (.slice _), .nils => .ok (.val (.tup []) s)
      | some (.slice el), .sl b off n _ => match Nat.beq n 0, zeroT C.P el with
        | true, _ => .ok (.val (.tup []) s)
        | false, some z => match s.h.wrN b off (zeros z.cells n) with
          | some h => .ok (.val (.tup []) { s with h })
          | none => .bad fr.fid o.pos
        | false, none => .bad fr.fid o.pos
      | _, _ => .bad fr.fid o.pos
    | _, _ => .bad fr.fid o.pos
  | .defer { callee := .value f, args, .. } =>
    match fr.rnd, e f, evs C.gl s.tm args.toList with
    | none, some (.fn (.func f) first cap), some vs => .ok (.val undefV { s with df := .call ⟨.func f, cap, first ++ vs⟩ :: s.df })
    | _, _, _ => .bad fr.fid o.pos
  | .panic x => match e x with
    | some (.iface t v) => .ok (.pan [⟨.iface t v, false⟩] s)
    | _ => .bad fr.fid o.pos
  | .mapUpdate t m k x | .insert t m k x =>
    match C.P.underlying t, e m, e k, e x with
    | some (.map kt _), some (.map r), some k, some v =>
      match keyOk C.P kt k, s.h.get r with
      | true, some (.map es) => match updV k v es with
        | some es => .ok (.val undefV { s with h := s.h.put r (.map es) })
        | none => .bad fr.fid o.pos
      | _, _ => .bad fr.fid o.pos
    | _, _, _, _ => .bad fr.fid o.pos
  | _ => .bad fr.fid o.pos

/-- one operation, in the order of the text. -/
def opx (fr : Fr) (o : Oper) (s : S) : M OR :=
  match alight C.P C.gl s.tm s.h o with
  | some v => .ok (.val v s)
  | none => match aalloc C.P C.gl s.tm s.h o with
    | some (v, h) => .ok (.val v { s with h })
    | none => match astore C.P C.gl s.tm s.h o with
      | some h => .ok (.val undefV { s with h })
      | none => heavy C rec fr o s

def wantedA (ops : Array Oper) (o : Oper) (tm : T V) : Option Bool :=
  match o.guard with
  | none => some true
  | some (j, want) => match (ops[j]?).bind (·.dst) with
    | some d => match tm.get d with
      | some (.bool b) => some (b == want)
      | some _ => some false
      | none => none
    | none => some false

def seqOps (fr : Fr) (ops : Array Oper) (l : List Oper) : S → M Res :=
  List.rec (motive := fun _ => S → M Res) (fun s => .ok (.x .norm s)) (fun o _ ih s =>
    match wantedA ops o s.tm with
    | none => .bad fr.fid o.pos
    | some false => match putT fr.nt s.tm o.dst undefV with
      | some tm => ih { s with tm }
      | none => .bad fr.fid o.pos
    | some true => match opx C rec fr o s with
      | .bad f p => .bad f p
      | .ok (.pan ch s) => .ok (.x (.panic ch) s)
      | .ok (.val v s) => match putT fr.nt s.tm o.dst v with
        | some tm => ih { s with tm }
        | none => .bad fr.fid o.pos) l

theorem seqOps_n (fr : Fr) (ops : Array Oper) (s : S) : seqOps C rec fr ops [] s = .ok (.x .norm s) := rfl
theorem seqOps_c (fr : Fr) (ops : Array Oper) (o : Oper) (os : List Oper) (s : S) : seqOps C rec fr ops (o :: os) s =
    match wantedA ops o s.tm with
    | none => .bad fr.fid o.pos
    | some false => match putT fr.nt s.tm o.dst undefV with
      | some tm => seqOps C rec fr ops os { s with tm }
      | none => .bad fr.fid o.pos
    | some true => match opx C rec fr o s with
      | .bad f p => .bad f p
      | .ok (.pan ch s) => .ok (.x (.panic ch) s)
      | .ok (.val v s) => match putT fr.nt s.tm o.dst v with
        | some tm => seqOps C rec fr ops os { s with tm }
        | none => .bad fr.fid o.pos := rfl

/-! ### regions whose order is drawn -/
/-- 0: pure, 1: reads, 2: makes memory, 3: stores, 4: all else. -/
def cls (P : Program) (o : Oper) : Nat :=
  match o.op with
  | .move _ | .assign _ | .pick _ _ _ | .build _ _ | .nilCheck _ | .binOp _ _ _ _ _ | .unOp _ _ _ | .makeInterface _ _ | .makeFunc _ _ _
  | .slice _ _ _ _ _ | .fieldAddr _ _ _ | .field _ _ _ | .indexAddr _ _ _ | .index _ _ _ | .typeAssert _ _ _ _ | .extract _ _ => 0
  | .load _ _ | .lookup _ _ _ _ => 1
  | .convert s d _ => match P.underlying d with
    | some (.slice _) => 2
    | _ => match P.underlying s with
      | some (.slice _) => 1
      | _ => 0
  | .call { callee := .builtin b, .. } => match b with
    | .len => 1
    | .cap | .max | .min => 0
    | _ => 4
  | .alloc _ | .box _ _ | .buildSlice _ _ _ | .makeMap _ _ | .makeSlice _ _ _ => 2
  | .store _ _ _ => 3
  | _ => 4

def ancOf (acc : List Nat) (es : List Edge) : Nat :=
  match es with
  | [] => 0
  | e :: es => if Region.binds .any e then 2 ^ e.on ||| acc.getD e.on 0 ||| ancOf acc es else ancOf acc es

def ancs : List Oper → List Nat → List Nat
  | [], acc => acc
  | o :: os, acc => ancs os (acc ++ [ancOf acc o.after.toList])

structure It where
  i : Nat
  o : Oper
  c : Nat
  anc : Nat
  lo : Nat

def heavyBits (P : Program) : List Oper → Nat → List Nat
  | [], _ => []
  | o :: os, i => match Nat.ble 3 (cls P o) with
    | true => i :: heavyBits P os (i + 1)
    | false => heavyBits P os (i + 1)

def countBits (an : Nat) : List Nat → Nat
  | [] => 0
  | h :: hs => match an.testBit h with
    | true => countBits an hs + 1
    | false => countBits an hs

def mkIts (P : Program) (hs : List Nat) : List Oper → List Nat → Nat → List It
  | o :: os, an :: as, i => ⟨i, o, cls P o, an, countBits an hs⟩ :: mkIts P hs os as (i + 1)
  | _, _, _ => []

def items (P : Program) (ops : List Oper) : List It :=
  mkIts P (heavyBits P ops 0) ops (ancs ops []) 0

def cmpb (x y : It) : Bool := x.anc.testBit y.i || y.anc.testBit x.i

def tmpsOf (ops : Array Oper) (o : Oper) : List Nat :=
  o.op.operands.toList.filterMap (fun | .tmp t => some t | _ => none) ++
  (match o.guard with | some (j, _) => ((ops[j]?).bind (·.dst)).toList | none => [])

/-- what holds of a region by its text: edges point back; writers and readers of a slot are in order. -/
def slotOk (ops : Array Oper) (its : List It) : Bool :=
  its.all fun x => its.all fun y => Nat.beq x.i y.i || cmpb x y ||
    !(match y.o.dst with | some d => (tmpsOf ops x.o).contains d || x.o.dst == some d | none => false)

def backOk (its : List It) : Bool := its.all fun x => x.o.after.toList.all fun e => !Region.binds .any e || Nat.blt e.on x.i

def sub (tm : T V) (l : List Nat) : T V :=
  List.rec (motive := fun _ => T V) .leaf (fun t _ ih => match tm.get t, Nat.blt t lim with
    | some v, true => ih.set fu t v
    | _, _ => ih) l
theorem sub_n (tm : T V) : sub tm [] = .leaf := rfl
theorem sub_c (tm : T V) (t : Nat) (ts : List Nat) : sub tm (t :: ts) = match tm.get t, Nat.blt t lim with
    | some v, true => (sub tm ts).set fu t v
    | _, _ => sub tm ts := rfl

/-- what came of an item: 0 it was passed over, 1 a value that was read, 2 memory was made, 3 all else. -/
structure Ev where
  it : It
  tmr : T V
  k : Nat
  v : V
  b : Nat

structure DS where
  s : S
  evs : List Ev
  mask : Nat

/-- an item in its turn: all that it hangs on is done, it itself is not. -/
def turnOk (d : DS) (it : It) : Bool := Nat.beq (it.anc &&& d.mask) it.anc && !d.mask.testBit it.i

def DS.add (fr : Fr) (d : DS) (it : It) (tmr : T V) (k : Nat) (v : V) (s : S) : Option DS :=
  match putT fr.nt d.s.tm it.o.dst v with
  | some tm => some { s := { s with tm }, evs := ⟨it, tmr, k, v, d.s.h.nxt⟩ :: d.evs, mask := d.mask ||| 2 ^ it.i }
  | none => none

def item1 (fr : Fr) (ops : Array Oper) (it : It) (d : DS) : Option DS :=
  let tmr := sub d.s.tm (tmpsOf ops it.o)
  match turnOk d it, wantedA ops it.o tmr with
  | true, some false => d.add fr it tmr 0 undefV d.s
  | true, some true =>
    match Nat.beq it.c 2 with
    | true => match aalloc C.P C.gl tmr d.s.h it.o with
      | some (v, h) => d.add fr it tmr 2 v { d.s with h }
      | none => none
    | false => match alight C.P C.gl tmr d.s.h it.o with
      | some v => d.add fr it tmr 1 v d.s
      | none => none
  | _, _ => none

def phase (fr : Fr) (ops : Array Oper) (k : Nat) (l : List It) : DS → Option DS :=
  List.rec (motive := fun _ => DS → Option DS) (fun d => some d) (fun it _ ih d =>
    match Nat.beq it.lo k && Nat.blt it.c 3 with
    | false => ih d
    | true => match item1 C fr ops it d with
      | some d => ih d
      | none => none) l
theorem phase_n (fr : Fr) (ops : Array Oper) (k : Nat) (d : DS) : phase C fr ops k [] d = some d := rfl
theorem phase_c (fr : Fr) (ops : Array Oper) (k : Nat) (it : It) (its : List It) (d : DS) : phase C fr ops k (it :: its) d =
    match Nat.beq it.lo k && Nat.blt it.c 3 with
    | false => phase C fr ops k its d
    | true => match item1 C fr ops it d with
      | some d => phase C fr ops k its d
      | none => none := rfl

/-- does an operation that yields a value look at no memory? -/
def pureOp (o : Oper) : Bool :=
  match o.op with
  | .load .. => false
  | .convert .. => false
  | .lookup .. => false
  | .call .. => false
  | _ => true

/-- what was read, and may be read later by the model, reads the same now. -/
def pendOk (h : H) (anc : Nat) (l : List Ev) : Bool :=
  List.rec (motive := fun _ => Bool) true (fun e _ ih => (!Nat.beq e.k 1 || pureOp e.it.o || anc.testBit e.it.i || (match alight C.P C.gl e.tmr h e.it.o with | some v => V.beq v e.v | none => false)) && ih) l
theorem pendOk_c (h : H) (anc : Nat) (e : Ev) (es : List Ev) : pendOk C h anc (e :: es) = ((!Nat.beq e.k 1 || pureOp e.it.o || anc.testBit e.it.i || (match alight C.P C.gl e.tmr h e.it.o with | some v => V.beq v e.v | none => false)) && pendOk C h anc es) := rfl

def clearD (tm : T V) : List It → T V
  | [] => tm
  | it :: its => match it.o.dst with
    | some d => clearD (tm.del d) its
    | none => clearD tm its

inductive HR where
  | go (d : DS)
  | stop (ch : List PE) (s : S)

/-- a heavy item in its turn. -/
def heavy1 (fr : Fr) (ops : Array Oper) (its : List It) (it : It) (d : DS) : M HR :=
  let tmr := sub d.s.tm (tmpsOf ops it.o)
  match turnOk d it, wantedA ops it.o tmr with
  | true, some false => match d.add fr it tmr 0 undefV d.s with
    | some d => .ok (.go d)
    | none => .bad fr.fid "heavy1"
  | true, some true =>
    match Nat.beq it.c 3 with
    | true => match astore C.P C.gl tmr d.s.h it.o with
      | some h => match d.add fr it tmr 3 undefV { d.s with h } with
        | some d => .ok (.go d)
        | none => .bad fr.fid "heavy1"
      | none => .bad fr.fid it.o.pos
    | false => match heavy C rec fr it.o { d.s with tm := tmr } with
      | .bad f p => .bad f p
      | .ok (.pan ch s) => .ok (.stop ch { s with tm := clearD d.s.tm its })
      | .ok (.val v s) => match d.add fr it tmr 3 v s with
        | some d => .ok (.go d)
        | none => .bad fr.fid "heavy1"
  | _, _ => .bad fr.fid "heavy1"

/-- what is not done yet hangs on the heavy item that comes next. -/
def waits (its : List It) (it : It) (d : DS) : Bool := its.all fun x => Nat.ble 3 x.c || d.mask.testBit x.i || x.anc.testBit it.i

def phases (fr : Fr) (ops : Array Oper) (its : List It) (fin : DS → M Res) : List It → Nat → Nat → DS → M Res
  | hs, k, anc, d => match phase C fr ops k its d with
    | none => .bad fr.fid "phase"
    | some d => match pendOk C d.s.h anc d.evs with
      | false => .bad fr.fid "pend"
      | true => match hs with
        | [] => fin d
        | it :: hs => match waits its it d with
          | false => .bad fr.fid "waits"
          | true => match heavy1 C rec fr ops its it d with
            | .bad f p => .bad f p
            | .ok (.stop ch s) => .ok (.x (.panic ch) s)
            | .ok (.go d) => phases fr ops its fin hs (k + 1) it.anc d

def rdCells (P : Program) (gl : List Nat) (tm : T V) (o : Oper) : Option (Nat × Nat × Nat) :=
  match o.op with
  | .store t a _ => match ev gl tm a, szT P t with
    | some (.ptr b o), some n => some (b, o, n)
    | _, _ => none
  | _ => none

def apartC : Option (Nat × Nat × Nat) → Option (Nat × Nat × Nat) → Bool
  | some (b, o, n), some (b', o', n') => !Nat.beq b b' || Nat.ble (o + n) o' || Nat.ble (o' + n') o
  | _, _ => false

/-- heavy items are in order, one behind the other. -/
def chainOk : List It → Bool
  | [] => true
  | x :: xs => xs.all (fun y => y.anc.testBit x.i) && chainOk xs

def full (n : Nat) (d : DS) : M Res := match Nat.beq d.mask (2 ^ n - 1) with
  | true => .ok (.x .norm d.s)
  | false => .bad 0 "full"

/-- no operation of the light ones hangs on so many heavy ones. -/
def noLate (its : List It) (k : Nat) : Bool := its.all fun x => Nat.ble 3 x.c || Nat.ble x.lo k

/-- two stores into two blocks. -/
def twoStores (ops : Array Oper) (a b : It) (d : DS) : Bool :=
  match a.o.guard, b.o.guard, a.o.dst, b.o.dst with
  | none, none, none, none =>
    match rdCells C.P C.gl (sub d.s.tm (tmpsOf ops a.o)) a.o, rdCells C.P C.gl (sub d.s.tm (tmpsOf ops b.o)) b.o with
    | some (x, _, _), some (y, _, _) => Nat.beq a.c 3 && Nat.beq b.c 3 && !Nat.beq x y && Nat.blt x lim && Nat.blt y lim
    | _, _ => false
  | _, _, _, _ => false

/-- the last two heavy items are stores, in any order. -/
def forkFin (fr : Fr) (ops : Array Oper) (its : List It) (a b : It) (k : Nat) (d : DS) : M Res :=
  match twoStores C ops a b d && noLate its k && waits its a d && waits its b d with
  | false => .bad fr.fid "fork"
  | true => match heavy1 C rec fr ops its a d, heavy1 C rec fr ops its b d with
    | .ok (.go d1), .ok (.go e1) => match pendOk C d1.s.h a.anc d1.evs && pendOk C e1.s.h b.anc e1.evs && waits its b d1 && waits its a e1 with
      | false => .bad fr.fid "fork: pend"
      | true => match heavy1 C rec fr ops its b d1, heavy1 C rec fr ops its a e1 with
        | .ok (.go d2), .ok (.go e2) => match pendOk C d2.s.h b.anc d2.evs && pendOk C e2.s.h a.anc e2.evs && Nat.beq d2.mask (2 ^ ops.size - 1) && Nat.beq e2.mask (2 ^ ops.size - 1) with
          | true => .ok (.x .norm d2.s)
          | false => .bad fr.fid "fork: full"
        | _, _ => .bad fr.fid "fork: second"
    | _, _ => .bad fr.fid "fork: first"

def last2 : List It → Option (List It × It × It)
  | [] => none
  | [_] => none
  | a :: b :: r => match r with
    | [] => some ([], a, b)
    | c :: r => match last2 (b :: c :: r) with
      | some (f, x, y) => some (a :: f, x, y)
      | none => none

def drawnOps (fr : Fr) (ops : Array Oper) (s : S) : M Res :=
  let its := items C.P ops.toList
  match slotOk ops its && backOk its with
  | false => .bad fr.fid "regOk"
  | true =>
    let hs := its.filter fun it => Nat.ble 3 it.c
    match chainOk hs with
    | true => phases C rec fr ops its (full ops.size) hs 0 0 ⟨s, [], 0⟩
    | false => match last2 hs with
      | some (f, a, b) => match chainOk (f ++ [a]) && chainOk (f ++ [b]) with
        | true => phases C rec fr ops its (forkFin C rec fr ops its a b f.length) f 0 0 ⟨s, [], 0⟩
        | false => .bad fr.fid (match its with | it :: _ => it.o.pos ++ " chain" | [] => "chain")
      | none => .bad fr.fid (match its with | it :: _ => it.o.pos ++ " chain" | [] => "chain")

def then_ (r : M Res) (k : S → M Res) : M Res :=
  match r with
  | .ok (.x .norm s) => k s
  | r => r

def resV (h : H) (tm : T V) : List ResultVar → Option (List V)
  | [] => some []
  | .tmp t :: rs => match tm.get t, resV h tm rs with
    | some v, some vs => some (v :: vs)
    | _, _ => none
  | .cell a t :: rs => match tm.get a, resV h tm rs with
    | some (.ptr b o), some vs => match isAggT C.P t with
      | some true => match szT C.P t with
        | some n => match h.rdN b o n with
          | some cs => some (.agg cs :: vs)
          | none => none
        | none => none
      | some false => match h.rd b o with
        | some v => some (v :: vs)
        | none => none
      | none => none
    | _, _ => none

def setAll (tm : T V) : Nat → List V → T V
  | _, [] => tm
  | i, v :: vs => setAll (tm.set fu i v) (i + 1) vs

def setPs (nt : Nat) (tm : T V) : List Nat → List V → Option (T V)
  | [], [] => some tm
  | d :: ds, v :: vs => match Nat.blt d nt with
    | true => setPs nt (tm.set fu d v) ds vs
    | false => none
  | _, _ => none

def settleA : AMode → AMode
  | .pan (⟨_, true⟩ :: _) => .ret
  | m => m

def raisedA (m : AMode) (ch : List PE) : AMode :=
  match m with
  | .pan old => .pan (ch ++ old)
  | .ret => .pan ch

def retV : List V → V
  | [v] => v
  | vs => .tup vs

def stepR : Req → M Res
  | .code fr c s =>
    match c with
    | .skip => .ok (.x .norm s)
    | .label _ => .ok (.x .norm s)
    | .region _ ops false => seqOps C rec fr ops ops.toList s
    | .region _ ops true => drawnOps C rec fr ops s
    | .seq a b => then_ (rec (.code fr a s)) fun s => rec (.code fr b s)
    | .cond x a b => match ev C.gl s.tm x with
      | some (.bool true) => rec (.code fr a s)
      | some (.bool false) => rec (.code fr b s)
      | _ => .bad fr.fid "cond"
    | .block id b => match rec (.code fr b s) with
      | .ok (.x (.exit i) s) => if i = id then .ok (.x .norm s) else .ok (.x (.exit i) s)
      | r => r
    | .scope b => rec (.code fr b s)
    | .loop b => then_ (rec (.code fr b s)) fun s => rec (.code fr (.loop b) s)
    | .exit id => .ok (.x (.exit id) s)
    | .ret => .ok (.x .ret s)
    | .rangeFunc f ps assign body =>
      match fr.rnd, ev C.gl s.tm f, s.h.new (.dfr (some [])) with
      | none, some (.fn (.func f) first cap), some (r, h) =>
        match h.new (.loop { state := .ready, pending := none, fn := fr.fid, tmps := s.tm, nt := fr.nt, params := ps.toList, assign, body }) with
        | none => .bad 0 "step"
        | some (l, h) =>
          match rec (.call f ((first ++ [.fn (.yield l) [] []]) ++ cap) none h) with
          | .bad f p => .bad f p
          | .ok (.x _ _) => .bad 0 "step"
          | .ok (.e (.pan ch) _ h) => .ok (.x (.panic ch) { s with df := .collected r :: s.df, h })
          | .ok (.e (.ret _) _ h) =>
            let s := { s with df := .collected r :: s.df, h }
            match h.get l with
            | some (.loop lp) => if lp.state = .busy then .bad 0 "busy" else
              let s := { s with h := s.h.put l (.loop { lp with state := .exhausted }) }
              match lp.pending with
              | none => .ok (.x .norm s)
              | some .ret => .ok (.x .ret s)
              | some (.exit id) => .ok (.x (.exit id) s)
              | _ => .bad 0 "step"
            | _ => .bad 0 "step"
      | _, _, _ => .bad 0 "step"
    | _ => .bad 0 "step"
  | .call f args u h =>
    match C.P.funcs[f]? with
    | none => .bad f "no func"
    | some fn => match fn.body with
      | none => .bad f "no body"
      | some b =>
        match Nat.ble args.length fn.ntmps && Nat.ble fn.ntmps lim with
        | false => .bad 0 "step"
        | true =>
          match rec (.code ⟨fn.ntmps, none, f⟩ b ⟨setAll .leaf 0 args, [], u, h⟩) with
          | .ok (.x .norm s) => rec (.leave fn s.tm s.df .ret s.u s.h)
          | .ok (.x .ret s) => rec (.leave fn s.tm s.df .ret s.u s.h)
          | .ok (.x (.panic ch) s) => rec (.leave fn s.tm s.df (.pan ch) s.u s.h)
          | .bad f p => .bad f p
          | _ => .bad f "call: exit"
  | .leave fn tm df m u h =>
    match df with
    | [] => match m with
      | .pan ch => .ok (.e (.pan ch) u h)
      | .ret => match resV C h tm fn.results.toList with
        | some vs => .ok (.e (.ret (retV vs)) u h)
        | none => .bad 0 "step"
    | .collected r :: ds => match h.get r with
      | some (.dfr (some cs)) => rec (.leave fn tm (cs ++ ds) m u (h.put r (.dfr none)))
      | _ => .bad 0 "step"
    | .call ⟨.func f, cap, args⟩ :: ds =>
      match rec (.call f (args ++ cap) (some m) h) with
      | .ok (.e (.ret _) (some m) h) =>
        rec (.leave fn tm ds (settleA m) u h)
      | .ok (.e (.pan ch) (some m) h) =>
        rec (.leave fn tm ds (raisedA m ch) u h)
      | .bad f p => .bad f p
      | _ => .bad 0 "leave"
    | .call _ :: _ => .bad 0 "step"
  | .round l args h =>
    match h.get l with
    | some (.loop lp) =>
      if lp.state = .ready ∧ lp.nt ≤ lim then
        match setPs lp.nt lp.tmps lp.params args with
        | none => .bad 0 "step"
        | some tm =>
          let fr : Fr := ⟨lp.nt, some l, lp.fn⟩
          match rec (.code fr lp.assign ⟨tm, [], none, h⟩) with
          | .ok (.x .norm s) =>
            match s.df, s.h.get l, C.P.funcs[lp.fn]? with
            | [], some (.loop lp1), some _ =>
              if lp1.state = .ready then
                match rec (.code fr lp.body { s with h := s.h.put l (.loop { lp1 with state := .busy }) }) with
                | .ok (.x x s) =>
                  match s.df, s.h.get l with
                  | [], some (.loop lp3) =>
                    let fin (j : Option Code) : M Res :=
                      .ok (.e (.ret (.bool j.isNone)) none (s.h.put l (.loop { lp3 with state := if j.isNone then .ready else .done, pending := j })))
                    match x with
                    | .norm => fin none
                    | .ret => fin (some .ret)
                    | .exit id => fin (some (.exit id))
                    | .panic ch => .ok (.e (.pan ch) none s.h)
                  | _, _ => .bad lp.fn "round end"
                | .bad f p => .bad f p
                | _ => .bad lp.fn "round body"
              else .bad lp.fn "round ready"
            | _, _, _ => .bad lp.fn "round loop"
          | .bad f p => .bad f p
          | _ => .bad lp.fn "round assign"
      else .bad lp.fn "round not ready"
    | _ => .bad 0 "round none"

end

noncomputable def run (C : Cfg) (n : Nat) : Req → M Res :=
  Nat.rec (motive := fun _ => Req → M Res) (fun _ => .bad 0 "fuel") (fun _ ih r => stepR C ih r) n
theorem run_z (C : Cfg) (r : Req) : run C 0 r = .bad 0 "fuel" := rfl
theorem run_s (C : Cfg) (n : Nat) (r : Req) : run C (n + 1) r = stepR C (run C n) r := rfl

end
end Go.AM
