/- The abstract machine: the model's own steps of a frame. -/
import Derived.Test.YtaednlggmjlaaaaGreatDoorAmOps6
import Derived.Recover
set_option linter.unusedVariables false
set_option linter.unusedSimpArgs false
namespace Go.AM
noncomputable section
open Go.RowKit
variable {P : Program}

def mkF (b : Frame) (tmps : Array Value) (todo : List Item) (df : List Deferred) : Frame :=
  { fn := b.fn, tmps, todo, defers := df, mode := .run, kind := b.kind, roundOf := b.roundOf }

def putA (tmps : Array Value) : Option Nat → Value → Array Value
  | none, _ => tmps
  | some d, v => tmps.setIfInBounds d v

theorem mkF_eval (b : Frame) (tmps : Array Value) (todo : List Item) (df : List Deferred) : (mkF b tmps todo df).eval = evT tmps := by
  funext x; cases x <;> rfl

section
variable {b : Frame} {tmps : Array Value} {df : List Deferred} {k : List Item} {cs : List Frame} {w : World} {ops : Array Oper}

theorem st_skip : step P (lone (mkF b tmps (.code .skip :: k) df) cs w) = .next (lone (mkF b tmps k df) cs w) :=
  step_lone_go (by simp [stepG, stepG.exec, mkF])
theorem st_label {l : Nat} : step P (lone (mkF b tmps (.code (.label l) :: k) df) cs w) = .next (lone (mkF b tmps k df) cs w) :=
  step_lone_go (by simp [stepG, stepG.exec, mkF])
theorem st_inBlock {id : Nat} : step P (lone (mkF b tmps (.inBlock id :: k) df) cs w) = .next (lone (mkF b tmps k df) cs w) :=
  step_lone_go (by simp [stepG, stepG.exec, mkF])
theorem st_inScope {c : Code} : step P (lone (mkF b tmps (.inScope c :: k) df) cs w) = .next (lone (mkF b tmps k df) cs w) :=
  step_lone_go (by simp [stepG, stepG.exec, mkF])
theorem st_seq {x y : Code} : step P (lone (mkF b tmps (.code (.seq x y) :: k) df) cs w) = .next (lone (mkF b tmps (.code x :: .code y :: k) df) cs w) :=
  step_lone_go (by simp [stepG, stepG.exec, mkF])
theorem st_block {id : Nat} {c : Code} : step P (lone (mkF b tmps (.code (.block id c) :: k) df) cs w) = .next (lone (mkF b tmps (.code c :: .inBlock id :: k) df) cs w) :=
  step_lone_go (by simp [stepG, stepG.exec, mkF])
theorem st_scope {c : Code} : step P (lone (mkF b tmps (.code (.scope c) :: k) df) cs w) = .next (lone (mkF b tmps (.code c :: .inScope c :: k) df) cs w) :=
  step_lone_go (by simp [stepG, stepG.exec, mkF])
theorem st_loop {c : Code} : step P (lone (mkF b tmps (.code (.loop c) :: k) df) cs w) = .next (lone (mkF b tmps (.code c :: .inLoop c :: k) df) cs w) :=
  step_lone_go (by simp [stepG, stepG.exec, mkF])
theorem st_inLoop {c : Code} : step P (lone (mkF b tmps (.inLoop c :: k) df) cs w) = .next (lone (mkF b tmps (.code c :: .inLoop c :: k) df) cs w) :=
  step_lone_go (by simp [stepG, stepG.exec, mkF])
theorem st_cond {x : Operand} {c d : Code} {t : Bool} (h : evT tmps x = .bool t) :
    step P (lone (mkF b tmps (.code (.cond x c d) :: k) df) cs w) = .next (lone (mkF b tmps (.code (if t then c else d) :: k) df) cs w) :=
  step_lone_go (by
    have := congrFun (mkF_eval b tmps (.code (.cond x c d) :: k) df) x
    simp only [mkF] at this
    simp [stepG, stepG.exec, mkF, this, h])
theorem st_exit {id : Nat} {k' : List Item} (h : exitTo id k = some k') :
    step P (lone (mkF b tmps (.code (.exit id) :: k) df) cs w) = .next (lone (mkF b tmps k' df) cs w) :=
  step_lone_go (by simp [stepG, stepG.exec, mkF, h])
theorem st_region {id : Nat} : step P (lone (mkF b tmps (.code (.region id ops false) :: k) df) cs w) = .next (lone (mkF b tmps (.inRegion ops (List.range ops.size) :: k) df) cs w) :=
  step_lone_go (by simp [stepG, stepG.exec, mkF])
theorem st_draw {id : Nat} : step P (lone (mkF b tmps (.code (.region id ops true) :: k) df) cs w) =
    .next (lone (mkF b tmps (.inRegion ops (Region.schedule (P.follows .mixedOrders) ops (w.tape w.drawn (.order b.fn id))) :: k) df) cs { w with drawn := w.drawn + 1 }) :=
  step_lone_go (by simp [stepG, stepG.exec, mkF, choose, Sem.run, Question.forced, Question.cut])
theorem st_end : step P (lone (mkF b tmps (.inRegion ops [] :: k) df) cs w) = .next (lone (mkF b tmps k df) cs w) :=
  step_lone_go (by simp [stepG, stepG.exec, mkF])

theorem finish_mkF (i : Nat) (rest : List Nat) (v : Value) : (mkF b tmps (.inRegion ops (i :: rest) :: k) df).finish v = mkF b (putA tmps ((ops[i]?).bind (·.dst)) v) (.inRegion ops rest :: k) df := by
  cases h : (ops[i]?).bind (·.dst) <;> simp [Frame.finish, mkF, putA, h]

theorem raise_mkF (todo : List Item) (ch : List PanicEntry) : (mkF b tmps todo df).raise ch = { mkF b tmps todo df with mode := .panicking ch } := rfl

theorem st_op_skip {i : Nat} {rest : List Nat} {o : Oper} (ho : ops[i]? = some o) (h : Region.wanted o (yielded ops tmps) = false) :
    step P (lone (mkF b tmps (.inRegion ops (i :: rest) :: k) df) cs w) = .next (lone (mkF b (putA tmps o.dst undef) (.inRegion ops rest :: k) df) cs w) := by
  have := finish_mkF (b := b) (tmps := tmps) (ops := ops) (k := k) (df := df) i rest undef
  rw [ho] at this
  simp only [Option.bind_some] at this
  rw [← this]
  exact step_lone_go (by simp only [mkF] at *; simp [stepG, stepG.exec, ho, h])

theorem stepG_opF {i : Nat} {rest : List Nat} {o : Oper} (ho : ops[i]? = some o) (hw : Region.wanted o (yielded ops tmps) = true) (hd : b.roundOf = none ∨ ∀ c, o.op ≠ .defer c) :
    stepG P true { frame := mkF b tmps (.inRegion ops (i :: rest) :: k) df, callers := cs, status := .running, dying := none } w =
      stepG.apply P true (mkF b tmps (.inRegion ops (i :: rest) :: k) df) cs none (execOp (evT tmps) o) w := by
  have he := mkF_eval b tmps (.inRegion ops (i :: rest) :: k) df
  simp only [mkF] at he
  rcases hd with hd | hd
  · rw [hd] at he
    simp [stepG, stepG.exec, stepG.oper, Frame.oper?, mkF, ho, hw, he, hd]
  · have : ∀ (r : Option Nat), (match r, o.op with
      | some l, .defer c => stepG.apply P true (mkF b tmps (.inRegion ops (i :: rest) :: k) df) cs none (do Instr.deferInRound l (← resolve (evT tmps) c o.type); pure .skip) w
      | _, _ => stepG.apply P true (mkF b tmps (.inRegion ops (i :: rest) :: k) df) cs none (execOp (evT tmps) o) w) = stepG.apply P true (mkF b tmps (.inRegion ops (i :: rest) :: k) df) cs none (execOp (evT tmps) o) w := by
      intro r
      cases r with
      | none => rfl
      | some l =>
        cases hop : o.op <;> first | rfl | exact absurd hop (hd _)
    have := this b.roundOf
    simp only [mkF] at this
    simp [stepG, stepG.exec, stepG.oper, Frame.oper?, mkF, ho, hw, he]
    exact this

theorem st_val {i : Nat} {rest : List Nat} {o : Oper} {v : Value} {w' : World} (ho : ops[i]? = some o) (hw : Region.wanted o (yielded ops tmps) = true) (hd : b.roundOf = none ∨ ∀ c, o.op ≠ .defer c)
    (hr : (execOp (evT tmps) o).run P w = .ok (.value v) w') :
    step P (lone (mkF b tmps (.inRegion ops (i :: rest) :: k) df) cs w) = .next (lone (mkF b (putA tmps o.dst v) (.inRegion ops rest :: k) df) cs w') := by
  have := finish_mkF (b := b) (tmps := tmps) (ops := ops) (k := k) (df := df) i rest v
  rw [ho] at this
  simp only [Option.bind_some] at this
  rw [← this]
  exact step_lone_go (by rw [stepG_opF ho hw hd]; simp [stepG.apply, hr, mkF])

theorem st_skipv {i : Nat} {rest : List Nat} {o : Oper} {w' : World} (ho : ops[i]? = some o) (hw : Region.wanted o (yielded ops tmps) = true) (hd : b.roundOf = none ∨ ∀ c, o.op ≠ .defer c)
    (hr : (execOp (evT tmps) o).run P w = .ok .skip w') :
    step P (lone (mkF b tmps (.inRegion ops (i :: rest) :: k) df) cs w) = .next (lone (mkF b (putA tmps o.dst undef) (.inRegion ops rest :: k) df) cs w') := by
  have := finish_mkF (b := b) (tmps := tmps) (ops := ops) (k := k) (df := df) i rest undef
  rw [ho] at this
  simp only [Option.bind_some] at this
  rw [← this]
  exact step_lone_go (by rw [stepG_opF ho hw hd]; simp [stepG.apply, hr, mkF])

theorem st_pan {i : Nat} {rest : List Nat} {o : Oper} {v : Value} {w' : World} (ho : ops[i]? = some o) (hw : Region.wanted o (yielded ops tmps) = true) (hd : b.roundOf = none ∨ ∀ c, o.op ≠ .defer c)
    (hr : (execOp (evT tmps) o).run P w = .halt (.panic v) w') :
    step P (lone (mkF b tmps (.inRegion ops (i :: rest) :: k) df) cs w) = .next (lone { mkF b tmps (.inRegion ops (i :: rest) :: k) df with mode := .panicking [{ v, recovered := false }] } cs w') := by
  rw [← raise_mkF]
  exact step_lone_go (by rw [stepG_opF ho hw hd]; simp [stepG.apply, hr, mkF])

theorem st_enter {i : Nat} {rest : List Nat} {o : Oper} {f : FuncId} {args : Array Value} {w' : World} (ho : ops[i]? = some o) (hw : Region.wanted o (yielded ops tmps) = true) (hd : b.roundOf = none ∨ ∀ c, o.op ≠ .defer c)
    (hr : (execOp (evT tmps) o).run P w = .ok (.enter f args) w') :
    step P (lone (mkF b tmps (.inRegion ops (i :: rest) :: k) df) cs w) = .next (lone (Frame.enter P f args .normal) (mkF b tmps (.inRegion ops (i :: rest) :: k) df :: cs) w') :=
  step_lone_go (by rw [stepG_opF ho hw hd]; simp [stepG.apply, hr, mkF])

theorem st_round {i : Nat} {rest : List Nat} {o : Oper} {l : Nat} {f : FuncId} {ts : Array Value} {as bd : Code} {w' : World} (ho : ops[i]? = some o) (hw : Region.wanted o (yielded ops tmps) = true) (hd : b.roundOf = none ∨ ∀ c, o.op ≠ .defer c)
    (hr : (execOp (evT tmps) o).run P w = .ok (.round l f ts as bd) w') :
    step P (lone (mkF b tmps (.inRegion ops (i :: rest) :: k) df) cs w) = .next (lone (Frame.round l f ts as bd .normal) (mkF b tmps (.inRegion ops (i :: rest) :: k) df :: cs) w') :=
  step_lone_go (by rw [stepG_opF ho hw hd]; simp [stepG.apply, hr, mkF])

theorem st_defer {i : Nat} {rest : List Nat} {o : Oper} {d : Deferred} {w' : World} (ho : ops[i]? = some o) (hw : Region.wanted o (yielded ops tmps) = true) (hd : b.roundOf = none)
    (hr : (execOp (evT tmps) o).run P w = .ok (.defer d) w') :
    step P (lone (mkF b tmps (.inRegion ops (i :: rest) :: k) df) cs w) = .next (lone (mkF b (putA tmps o.dst undef) (.inRegion ops rest :: k) (d :: df)) cs w') := by
  have := finish_mkF (b := b) (tmps := tmps) (ops := ops) (k := k) (df := d :: df) i rest undef
  rw [ho] at this
  simp only [Option.bind_some] at this
  rw [← this]
  exact step_lone_go (by rw [stepG_opF ho hw (.inl hd)]; simp [stepG.apply, hr, mkF])

theorem st_recover {i : Nat} {rest : List Nat} {o : Oper} {w' : World} (ho : ops[i]? = some o) (hw : Region.wanted o (yielded ops tmps) = true) (hd : b.roundOf = none)
    (hr : (execOp (evT tmps) o).run P w = .ok .recover w') :
    step P (lone (mkF b tmps (.inRegion ops (i :: rest) :: k) df) cs w) =
      match tryRecover (mkF b tmps (.inRegion ops (i :: rest) :: k) df) cs with
      | some (v, cs') => .next (lone (mkF b (putA tmps o.dst v) (.inRegion ops rest :: k) df) cs' w')
      | none => .next (lone (mkF b (putA tmps o.dst .nilIface) (.inRegion ops rest :: k) df) cs w') := by
  have h1 := fun v => finish_mkF (b := b) (tmps := tmps) (ops := ops) (k := k) (df := df) i rest v
  rw [ho] at h1
  simp only [Option.bind_some] at h1
  split
  · rename_i v cs' htr
    rw [← h1]
    refine step_lone_go ?_
    rw [stepG_opF ho hw (.inl hd)]
    simp only [mkF] at htr
    simp [stepG.apply, hr, mkF, hd]
    rw [hd] at htr
    simp [htr]
  · rename_i htr
    rw [← h1]
    refine step_lone_go ?_
    rw [stepG_opF ho hw (.inl hd)]
    simp only [mkF] at htr
    simp [stepG.apply, hr, mkF, hd]
    rw [hd] at htr
    simp [htr]
end
end
end Go.AM
