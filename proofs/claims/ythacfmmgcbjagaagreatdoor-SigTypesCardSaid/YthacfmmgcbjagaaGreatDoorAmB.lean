/- laid for this seat: AmOps1 AmOps2 AmOps3 AmOps4 AmOps5 AmOps6 -/
import Derived.Test.YthacfmmgcbjagaaGreatDoorAmA
import Derived.Laws.StructEq
import Derived.ChangeKeysEq
import Derived.Laws.BytesString
section
/- The abstract machine: operands, types, comparing. -/
set_option linter.unusedVariables false
set_option linter.unusedSimpArgs false
namespace Go.AM
noncomputable section
open Go.RowKit
variable {P : Program}
def evT (tmps : Array Value) : Operand → Value
 | .tmp t => tmps.getD t undef
 | .const v => v
 | .global g => .pointer (some ⟨g, 0, none⟩)
 | .func f => .func (.func f) #[] #[]
theorem cvs_sound {E : Env} {n : Nat} (ih : ∀ x v, cv n x = some v → AR E v x) : ∀ (l : List Value) (r : List V), l.mapM (cv n) = some r → ARs E r l
 | [], r, h => by
  have : r = [] := by simpa using h.symm
  subst this; exact .nil
 | x :: l, r, h => by
  rw [List.mapM_cons] at h
  cases hx : cv n x with
  | none => rw [hx] at h; simp at h
  | some v =>
   cases hl : l.mapM (cv n) with
   | none => rw [hx, hl] at h; simp at h
   | some vs =>
    rw [hx, hl] at h
    have : r = v :: vs := by simpa using h.symm
    subst this
    exact .cons _ _ _ _ (ih _ _ hx) (cvs_sound ih l vs hl)
theorem cv_sound (E : Env) : ∀ (n : Nat) (x : Value) (v : V), cv n x = some v → AR E v x := by
 intro n
 induction n with
 | zero => intro x v h; simp [cv] at h
 | succ n ih =>
  intro x v h
  cases x with
  | bool b => simp [cv] at h; subst h; exact .bool b
  | int k m => simp [cv] at h; subst h; exact .int k m
  | string s => simp only [cv, Option.some.injEq] at h; subst h; exact .str _ s rfl
  | pointer a => cases a <;> simp [cv] at h; subst h; exact .nilp
  | slice a l c =>
   cases a with
   | some a => simp [cv] at h
   | none =>
    cases l with
    | succ l => simp [cv] at h
    | zero => cases c with
     | succ c => simp [cv] at h
     | zero => simp [cv] at h; subst h; exact .nils
  | map r => cases r <;> simp [cv] at h; subst h; exact .nilm
  | nilFunc => simp [cv] at h; subst h; exact .nilf
  | nilIface => simp [cv] at h; subst h; exact .nili
  | iface t x =>
   simp only [cv] at h
   cases hx : cv n x with
   | none => rw [hx] at h; cases h
   | some u => rw [hx] at h; cases h; exact .iface t u x (ih x u hx)
  | agg cs =>
   simp only [cv] at h
   cases hx : cs.toList.mapM (cv n) with
   | none => rw [hx] at h; cases h
   | some u => rw [hx] at h; cases h; exact .agg u cs (cvs_sound ih _ _ hx)
  | tuple cs =>
   simp only [cv] at h
   cases hx : cs.toList.mapM (cv n) with
   | none => rw [hx] at h; cases h
   | some u => rw [hx] at h; cases h; exact .tup u cs (cvs_sound ih _ _ hx)
  | float k b => simp [cv] at h
  | complex k a b => simp [cv] at h
  | chan r => simp [cv] at h
  | func f a c => simp [cv] at h
def GL (E : Env) (gl : List Nat) : Prop := ∀ g, gl.contains g = true → ∃ p, E g = some p ∧ p.blk = g ∧ p.off = 0
theorem GL.mono {E E' : Env} {gl : List Nat} (h : E.le E') (g : GL E gl) : GL E' gl := fun x hx => let ⟨p, a, b⟩ := g x hx; ⟨p, h _ _ a, b⟩
theorem ev_sound {E : Env} {gl : List Nat} {nt : Nat} {tm : T V} {tmps : Array Value} (hg : GL E gl) (r : TR E nt tm tmps) {x : Operand} {v : V} (h : ev gl tm x = some v) : AR E v (evT tmps x) := by
 cases x with
 | tmp t =>
  obtain ⟨v', h1, h2⟩ := r.2 t v h
  simpa [evT, Array.getD_eq_getD_getElem?, h1] using h2
 | const c => exact cv_sound E 6 c v h
 | func f => simp [ev] at h; subst h; exact .fn f [] [] #[] #[] .nil .nil
 | global g =>
  simp only [ev] at h
  split at h
  ·rename_i hc
   cases h
   obtain ⟨p, hp, rfl, h0⟩ := hg g hc
   have := AR.ptr (E := E) p.blk 0 p hp
   simpa [evT, h0] using this
  ·cases h
theorem evs_sound {E : Env} {gl : List Nat} {nt : Nat} {tm : T V} {tmps : Array Value} (hg : GL E gl) (r : TR E nt tm tmps) : ∀ {xs : List Operand} {vs : List V}, evs gl tm xs = some vs → ARs E vs (xs.map (evT tmps))
 | [], vs, h => by simp [evs] at h; subst h; exact .nil
 | x :: xs, vs, h => by
  simp only [evs] at h
  split at h
  ·rename_i v l h1 h2
   cases h
   exact .cons _ _ _ _ (ev_sound hg r h1) (evs_sound hg r h2)
  ·cases h
theorem run_info {t : TypeId} {i : TypeInfo} (h : P.info? t = some i) (w : World) : (typeInfo t).run P w = .ok i w := run_typeInfo w h
theorem run_szT {t : TypeId} {n : Nat} (h : szT P t = some n) (w : World) : (sizeOf t).run P w = .ok n w := by
 unfold szT at h
 cases hi : P.info? t with
 | none => rw [hi] at h; cases h
 | some i => rw [hi] at h; cases h; simp [sizeOf, run_info hi]
theorem run_isAggT {t : TypeId} {b : Bool} (h : isAggT P t = some b) (w : World) : (isAgg t).run P w = .ok b w := by
 unfold isAggT at h
 cases hu : P.underlying t with
 | none => rw [hu] at h; cases h
 | some d => rw [hu] at h; cases d <;> cases h <;> simp [isAgg, run_underlying hu]
theorem run_zeroT (E : Env) {t : TypeId} {z : V} (h : zeroT P t = some z) (w : World) : ∃ z', (zeroValue t).run P w = .ok z' w ∧ AR E z z' := by
 unfold zeroT at h
 cases hi : P.info? t with
 | none => rw [hi] at h; cases h
 | some i =>
  rw [hi] at h
  simp only [Option.bind_some] at h
  cases hz : i.zero with
  | none => rw [hz] at h; cases h
  | some z' =>
   rw [hz] at h
   exact ⟨z', by simp [zeroValue, run_info hi, hz], cv_sound E 4 z' z h⟩
theorem partV_sound {E : Env} {t : TypeId} {cs : List V} {cs' : Array Value} {off : Nat} {v : V} (h : partV P t cs off = some v) (r : ARs E cs cs'.toList) (w : World) :
  ∃ v', (part t cs' off).run P w = .ok v' w ∧ AR E v v' := by
 unfold partV at h
 split at h
 ·rename_i ha
  split at h
  ·rename_i n hn
   split at h
   ·cases h
    refine ⟨.agg (cs'.extract off (off + n)), by simp [part, run_isAggT ha, run_szT hn], .agg _ _ ?_⟩
    have := (r.drop off).take n
    rw [Array.toList_extract]
    simpa [List.extract] using this
   ·cases h
  ·cases h
 ·rename_i ha
  obtain ⟨v', hv, hr⟩ := r.get off v h
  have hv' : cs'[off]? = some v' := by simpa using hv
  exact ⟨v', by simp [part, run_isAggT ha, hv'], hr⟩
 ·cases h
theorem str_inj {s t : List Nat} {x y : ByteArray} (hx : x.data.toList.map UInt8.toNat = s) (hy : y.data.toList.map UInt8.toNat = t) : (x.toList == y.toList) = seq s t := by
 rw [ByteArray.toList_eq, ByteArray.toList_eq, Bool.eq_iff_iff, seq_iff, beq_iff_eq, ← hx, ← hy]
 constructor
 ·intro e; rw [e]
 ·intro e
  exact (List.map_inj_right (fun a b h => UInt8.toNat_inj.1 h)).1 e
theorem str_lt : ∀ (x y : List UInt8), Op.bytesLess x y = slt (x.map UInt8.toNat) (y.map UInt8.toNat)
 | x, [] => by cases x <;> rfl
 | [], b :: y => rfl
 | a :: x, b :: y => by
  simp only [Op.bytesLess, List.map_cons, slt, str_lt x y]
  have e1 : decide (a < b) = Nat.blt a.toNat b.toNat := by
   rw [Bool.eq_iff_iff, decide_eq_true_eq, UInt8.lt_iff_toNat_lt, Nat.blt_eq]
  have e2 : (a == b) = Nat.beq a.toNat b.toNat := by
   rw [Bool.eq_iff_iff, beq_iff_eq, ← UInt8.toNat_inj, Nat.beq_eq]
  rw [e1, e2]
set_option maxHeartbeats 1000000 in
theorem veq_sound (E : Env) : ∀ (f : Nat), (∀ d t x y b x' y' (w : World), f ≤ d → veq P f t x y = some b → AR E x x' → AR E y y' → (Op.equalIn d t x' y').run P w = .ok b w) ∧
  (∀ d fs xs ys b (xs' ys' : Array Value) (w : World), f ≤ d + 1 → feq P f fs xs ys = some b → ARs E xs xs'.toList → ARs E ys ys'.toList → (Op.eqFields d xs' ys' fs).run P w = .ok b w) := by
 intro f
 induction f with
 | zero => exact ⟨fun d t x y b x' y' w _ h => by simp [veq] at h, fun d fs xs ys b xs' ys' w _ h => by cases fs <;> simp [feq] at h⟩
 | succ f ih =>
  refine ⟨fun d t x y b x' y' w hd h hx hy => ?_, fun d fs xs ys b xs' ys' w hd h hx hy => ?_⟩
  ·obtain ⟨d, rfl⟩ : ∃ e, d = e + 1 := ⟨d - 1, by omega⟩
   have hd' : f ≤ d := by omega
   unfold veq at h
   split at h
   case h_1 hu => cases hx; cases hy; cases h; simp [Op.equalIn, run_underlying hu]
   case h_2 k0 k a k' c hu =>
    cases hx; cases hy
    split at h
    ·rename_i e; subst e; cases h; simp [Op.equalIn, run_underlying hu]
    ·cases h
   case h_3 hu =>
    cases hx with
    | str s x' e => cases hy with
     | str s2 y' e2 =>
      cases h
      simp only [Op.equalIn, Sem.run_bind, run_underlying hu, Result.andThen_ok, Sem.run_pure]
      rw [beq_toListBytes, str_inj e e2]
   case h_10 tx vx ty vy hu =>
    cases hx with
    | iface _ _ vx' hx' => cases hy with
     | iface _ _ vy' hy' =>
      split at h
      ·rename_i e
       subst e
       split at h
       ·rename_i hc
        cases hi : P.info? tx with
        | none => rw [hi] at hc; simp at hc
        | some i =>
         rw [hi] at hc
         have hcomp : i.comparable = true := by simpa using hc
         simp only [Op.equalIn, Sem.run_bind, run_underlying hu, Result.andThen_ok, ne_eq, not_true, if_false, run_info hi, hcomp, Bool.not_true, Bool.false_eq_true]
         exact ih.1 d tx vx vy b vx' vy' w hd' h hx' hy'
       ·cases h
      ·rename_i e
       cases h
       simp [Op.equalIn, run_underlying hu, e]
   case h_11 fields l l2 hu =>
    cases hx with
    | agg _ cs hl => cases hy with
     | agg _ cs2 hl2 =>
      split at h
      ·cases h
      ·rename_i hs
       have hf : P.fieldsOf t = fields := by simp [Program.fieldsOf, hu]
       rw [run_equalIn_struct (P := P) w d t cs cs2 (by rw [hf]; exact hu) hs, hf]
       exact ih.2 d fields.toList l l2 b cs cs2 w (by omega) h hl hl2
   all_goals first
    | (cases h; done)
    | (rename_i hu; cases hx <;> cases hy <;> cases h <;> simp [Op.equalIn, run_underlying hu]; done)
  ·cases fs with
   | nil => simp [feq] at h; subst h; simp [Op.eqFields]
   | cons fd fs =>
    simp only [feq] at h
    split at h
    ·cases h
    ·rename_i hn
     split at h
     ·rename_i a c ha hc
      obtain ⟨a', ra, rra⟩ := partV_sound ha hx w
      obtain ⟨c', rc, rrc⟩ := partV_sound hc hy w
      split at h
      ·rename_i hv
       have := ih.1 d _ _ _ _ _ _ w (by omega) hv rra rrc
       have ih2 := ih.2 d fs xs ys b xs' ys' w (by omega) h hx hy
       simp [Op.eqFields, hn, ra, rc, this, ih2]
      ·rename_i hv
       cases h
       have := ih.1 d _ _ _ _ _ _ w (by omega) hv rra rrc
       simp [Op.eqFields, hn, ra, rc, this]
      ·cases h
     ·cases h
end
end Go.AM
end
section
/- The abstract machine: operations that change nothing. -/
set_option linter.unusedVariables false
set_option linter.unusedSimpArgs false
namespace Go.AM
noncomputable section
open Go.RowKit
variable {P : Program}
theorem binOp_eql {E : Env} {t : TypeId} {x y : V} {x' y' : Value} (hx : AR E x x') (hy : AR E y y') (h1 : ∀ k a k' b, x = .int k a → y = .int k' b → False) (h2 : ∀ a b, x = .str a → y = .str b → False) :
  binOp .eql t x' y' = (do pure (.bool (← Op.equal t x' y'))) ∧ binOp .neq t x' y' = (do pure (.bool (!(← Op.equal t x' y')))) := by
 cases hx with
 | int k a => cases hy with
  | int k' b => exact (h1 _ _ _ _ rfl rfl).elim
  | _ => exact ⟨rfl, rfl⟩
 | str s x' e => cases hy with
  | str s' y' e' => exact (h2 _ _ rfl rfl).elim
  | _ => exact ⟨rfl, rfl⟩
 | _ => exact ⟨rfl, rfl⟩
theorem abin_sound {E : Env} {op : BinOp} {t : TypeId} {x y v : V} {x' y' : Value} (h : abin P op t x y = some v) (hx : AR E x x') (hy : AR E y y') (w : World) :
  ∃ v', (binOp op t x' y').run P w = .ok v' w ∧ AR E v v' := by
 unfold abin at h
 split at h
 ·rename_i k a k2 b
  cases hx; cases hy
  split at h
  ·cases h
  ·rename_i hb
   cases h
   exact ⟨_, by simp [binOp, Op.shift, hb], .int _ _⟩
 ·rename_i k a k2 b
  cases hx; cases hy
  split at h
  ·cases h
  ·rename_i hb
   cases h
   exact ⟨_, by simp [binOp, Op.shift, hb], .int _ _⟩
 ·rename_i k a k' b h1 h2
  cases hx; cases hy
  split at h
  ·rename_i e
   subst e
   cases op <;> simp only [Option.some.injEq, reduceCtorEq] at h
   case quo =>
    split at h
    ·cases h
    ·rename_i hb; cases h; exact ⟨_, by simp [binOp, Op.intDiv, hb], .int _ _⟩
   case rem =>
    split at h
    ·cases h
    ·rename_i hb; cases h; exact ⟨_, by simp [binOp, Op.intDiv, hb], .int _ _⟩
   all_goals (subst h; refine ⟨_, (by simp only [binOp, ne_eq, not_true_eq_false, if_false]; rfl), ?_⟩; first | exact .int _ _ | exact .bool _)
  ·cases h
 ·rename_i a b
  cases hx with
  | str s x' e => cases hy with
   | str s2 y' e2 =>
    have he : (x'.toList == y'.toList) = seq a b := str_inj e e2
    have hl : Op.bytesLess x'.toList y'.toList = slt a b := by rw [ByteArray.toList_eq, ByteArray.toList_eq, str_lt, e, e2]
    have hsx : x'.size = a.length := by rw [← e, List.length_map, Array.length_toList]; rfl
    have hsy : y'.size = b.length := by rw [← e2, List.length_map, Array.length_toList]; rfl
    cases op <;> simp only [Option.some.injEq, reduceCtorEq] at h
    case add =>
     split at h
     ·rename_i hlim
      cases h
      refine ⟨.string (x' ++ y'), ?_, .str _ _ ?_⟩
      ·have : ¬ ((x'.size + y'.size : Nat) : Int) > IntKind.i64.max := by
        unfold lim at hlim
        simp [IntKind.max, IntKind.signed, IntKind.bits]; omega
       simp only [binOp, Op.stringOp]
       rw [if_neg this]; rfl
      ·simp [← e, ← e2]
     ·cases h
    all_goals (subst h; exact ⟨_, by simp [binOp, Op.stringOp, he, hl] <;> rfl, .bool _⟩)
 ·rename_i h1 h2
  cases hv : veq P 40 t x y with
  | none => rw [hv] at h; cases h
  | some b =>
   rw [hv] at h; cases h
   have := (veq_sound E 40).1 Op.maxDepth t x y b x' y' w (by unfold Op.maxDepth; omega) hv hx hy
   refine ⟨.bool b, ?_, .bool b⟩
   rw [(binOp_eql hx hy (fun k a k' b e1 e2 => by subst e1; subst e2; exact h1 k a k' b rfl rfl) (fun a b e1 e2 => by subst e1; subst e2; exact h2 a b rfl rfl)).1]
   simp [Op.equal, this]
 ·rename_i h1 h2
  cases hv : veq P 40 t x y with
  | none => rw [hv] at h; cases h
  | some b =>
   rw [hv] at h; cases h
   have := (veq_sound E 40).1 Op.maxDepth t x y b x' y' w (by unfold Op.maxDepth; omega) hv hx hy
   refine ⟨.bool (!b), ?_, .bool _⟩
   rw [(binOp_eql hx hy (fun k a k' b e1 e2 => by subst e1; subst e2; exact h1 k a k' b rfl rfl) (fun a b e1 e2 => by subst e1; subst e2; exact h2 a b rfl rfl)).2]
   simp [Op.equal, this]
 ·cases h
theorem guard_sound {E : Env} {op : BinOp} {t : TypeId} {x y : Operand} {a b : V} {a' b' : Value} (h : guardOk P op t x y a b = true) (ha : AR E a a') (hb : AR E b b') (w : World) :
  (eqGuard op t x y a' b').run P w = .ok () w := by
 by_cases hop : op = .eql ∨ op = .neq
 ·rcases hop with rfl | rfl
  all_goals
   cases ha with
   | nili => cases hb with
    | nili =>
     simp only [guardOk] at h
     cases x <;> cases y <;> simp at h <;> simp [eqGuard]
    | _ => rfl
   | agg l cs hl => cases hb with
    | agg l2 cs2 hl2 =>
     simp only [guardOk] at h
     have h' : P.eqGuardType P.depth t = false := by simpa using h
     simp [eqGuard, h']
    | _ => rfl
   | _ => rfl
 ·cases op <;> first | exact absurd (Or.inl rfl) hop | exact absurd (Or.inr rfl) hop | rfl
theorem asIdx_sound {E : Env} {v : V} {v' : Value} {n : Nat} (h : asIdx v = some n) (r : AR E v v') : ∃ k, v = .int k n ∧ v' = .int k (n : Int) := by
 cases v <;> simp [asIdx] at h
 rename_i k m
 cases m with
 | ofNat m => simp at h; subst h; cases r; exact ⟨k, rfl, rfl⟩
 | negSucc m => simp at h
inductive OptR (E : Env) : Option V → Option Value → Prop where
 | none : OptR E none none
 | some (v : V) (v' : Value) (h : AR E v v') : OptR E (some v) (some v')
theorem nat?_sound {E : Env} {x : Option V} {x' : Option Value} {d n : Nat} (h : nat? x d = some n) (r : OptR E x x') :
  (x' = none ∧ n = d) ∨ ∃ k, x' = some (.int k (n : Int)) := by
 cases r with
 | none => simp [nat?] at h; exact .inl ⟨rfl, h.symm⟩
 | some v v' hr => obtain ⟨k, _, e⟩ := asIdx_sound h hr; exact .inr ⟨k, by rw [e]⟩
theorem run_sliceBound (w : World) (k : IntKind) (n y : Nat) (c : BoundsCode) (h : n ≤ y) : (Instr.sliceBound (.int k (n : Int)) y c).run P w = .ok n w := by
 have : (0 : Int) ≤ n ∧ (n : Int) ≤ y := by omega
 simp [Instr.sliceBound, asIntOf, this]
theorem run_bounds (w : World) (s : Bool) (len cap l h : Nat) {E : Env} {lo hi : Option V} {lo' hi' : Option Value} (hl : nat? lo 0 = some l) (hh : nat? hi len = some h) (rl : OptR E lo lo') (rh : OptR E hi hi') (h1 : l ≤ h) (h2 : h ≤ cap) :
  (Instr.sliceBounds s len cap lo' hi' none).run P w = .ok (l, h, cap) w := by
 rcases nat?_sound hl rl with ⟨rfl, rfl⟩ | ⟨k, rfl⟩ <;> rcases nat?_sound hh rh with ⟨rfl, rfl⟩ | ⟨k2, rfl⟩ <;>
  simp [Instr.sliceBounds, run_sliceBound, h1, h2]
theorem run_bounds3 (w : World) (len cap l h m : Nat) {E : Env} {lo hi : Option V} {lo' hi' : Option Value} {k : IntKind} (hl : nat? lo 0 = some l) (hh : nat? hi len = some h) (rl : OptR E lo lo') (rh : OptR E hi hi') (hhi : hi ≠ none) (h1 : l ≤ h) (h2 : h ≤ m) (h3 : m ≤ cap) :
  (Instr.sliceBounds true len cap lo' hi' (some (.int k (m : Int)))).run P w = .ok (l, h, m) w := by
 rcases nat?_sound hh rh with ⟨rfl, rfl⟩ | ⟨k2, rfl⟩
 ·cases rh; exact absurd rfl hhi
 ·rcases nat?_sound hl rl with ⟨rfl, rfl⟩ | ⟨k, rfl⟩ <;>
   simp [Instr.sliceBounds, run_sliceBound, h1, h2, h3]
end
end Go.AM
end
section
/- The abstract machine: operations that change nothing, one by one. -/
set_option linter.unusedVariables false
set_option linter.unusedSimpArgs false
namespace Go.AM
noncomputable section
open Go.RowKit
variable {P : Program}
theorem extract_bytes (x : ByteArray) (l h : Nat) : (x.extract l h).data.toList.map UInt8.toNat = ((x.data.toList.map UInt8.toNat).drop l).take (h - l) := by
 rw [ByteArray.data_extract, Array.toList_extract]
 simp [List.extract, List.map_take, List.map_drop]
theorem aslice_sound {E : Env} {t : TypeId} {x : V} {lo hi mx : Option V} {x' : Value} {lo' hi' mx' : Option Value} {v : V} (h : aslice P t x lo hi mx = some v)
  (rx : AR E x x') (rl : OptR E lo lo') (rh : OptR E hi hi') (rm : OptR E mx mx') (w : World) : ∃ v', (Instr.sliceAt t x' lo' hi' mx').run P w = .ok v' w ∧ AR E v v' := by
 unfold aslice at h
 split at h
 ·rename_i s hu
  cases rx with
  | str _ y e =>
  split at h
  ·cases h
  ·cases rm
   split at h
   ·rename_i l hh hl hhh
    split at h
    ·rename_i hc
     cases h
     have hs : y.size = s.length := by rw [← e, List.length_map, Array.length_toList]; rfl
     refine ⟨.string (y.extract l hh), ?_, .str _ _ (by rw [extract_bytes, e])⟩
     rw [← hs] at hhh hc
     have := run_bounds (P := P) w false y.size y.size l hh hl hhh rl rh hc.1 hc.2
     simp [Instr.sliceAt, run_underlying hu, Instr.slice, this]
    ·cases h
   ·cases h
 ·rename_i el hu
  cases rx
  split at h
  ·rename_i n hz h0 h1
   cases h
   cases rm
   have := run_bounds (P := P) w true 0 0 0 0 h0 h1 rl rh (Nat.le_refl _) (Nat.le_refl _)
   exact ⟨.slice none 0 0, by simp [Instr.sliceAt, run_underlying hu, Instr.slice, this, run_szT hz], .nils⟩
  ·rename_i n mv hz h0 h1
   split at h
   ·rename_i hv hm
    cases h
    cases rm with
    | some _ mv' hr =>
     obtain ⟨k, _, rfl⟩ := asIdx_sound hm hr
     have := run_bounds3 (P := P) w 0 0 0 0 0 (k := k) h0 h1 rl rh (by simp) (Nat.le_refl _) (Nat.le_refl _) (Nat.le_refl _)
     refine ⟨.slice none 0 0, ?_, .nils⟩
     simp [Instr.sliceAt, run_underlying hu, Instr.slice, run_szT hz]
     rw [show ((0 : Int)) = ((0 : Nat) : Int) from rfl, this]; simp [run_szT hz]
   ·cases h
  ·cases h
 ·rename_i el b o len cap hu
  split at h
  ·cases h
  ·rename_i sz hz
   split at h
   ·rename_i l hh hl hhh
    split at h
    ·cases rm
     split at h
     ·rename_i z
      split at h
      ·rename_i hc
       obtain ⟨h1, h2, rfl⟩ := hc
       cases h
       cases rx with
       | slo _ _ _ _ p c hE hext hn =>
        have := run_bounds (P := P) w true len c l hh hl hhh rl rh h1 (by omega)
        by_cases e : c = l
        ·have e1 : hh - l = 0 := by omega
         refine ⟨.slice (some ⟨p.blk, p.off + o, none⟩) 0 0, ?_, by rw [e1]; exact .sl0 _ _ _ _ (by simp) p hE (fun z' hz' => by rw [← hext, e]; exact Nat.le_refl _)⟩
         subst e
         simp [Instr.sliceAt, run_underlying hu, Instr.slice, this, run_szT hz, e1]
        ·refine ⟨.slice (some ⟨p.blk, p.off + (o + l * z), none⟩) (hh - l) (c - l), ?_, .slo _ _ _ _ p _ hE ?_ (by omega)⟩
         ·simp [Instr.sliceAt, run_underlying hu, Instr.slice, this, run_szT hz, e, add_zero]; omega
         ·rw [← hext, Nat.add_assoc, ← Nat.add_mul]
          congr 2; omega
       | sl0 _ _ _ a hq p hE hzz =>
        have := run_bounds (P := P) w true 0 0 l hh hl hhh rl rh h1 (by omega)
        have e1 : l = 0 := by omega
        have e2 : hh = 0 := by omega
        subst e1; subst e2
        exact ⟨.slice (some a) 0 0, by simp [Instr.sliceAt, run_underlying hu, Instr.slice, this, run_szT hz], .sl0 _ _ _ _ (by simp) p hE (fun z' hz' => by rw [Nat.zero_mul, Nat.add_zero]; exact hzz _ rfl)⟩
      ·cases h
     ·rename_i c
      split at h
      ·rename_i hc
       cases h
       cases rx with
       | sl _ _ _ p c hE hnc =>
        have := run_bounds (P := P) w true len c l hh hl hhh rl rh hc.1 hc.2
        by_cases e : c = l
        ·refine ⟨.slice (some ⟨p.blk, p.off + o, none⟩) (hh - l) (c - l), ?_, by rw [if_pos e]; exact .sl _ _ _ p _ hE (by omega)⟩
         subst e
         simp [Instr.sliceAt, run_underlying hu, Instr.slice, this, run_szT hz]
        ·refine ⟨.slice (some ⟨p.blk, p.off + (o + l * sz), none⟩) (hh - l) (c - l), ?_, by rw [if_neg e]; exact .sl _ _ _ p _ hE (by omega)⟩
         simp [Instr.sliceAt, run_underlying hu, Instr.slice, this, run_szT hz, e, add_zero]; omega
       | sl0 _ _ _ a hq p hE hzz =>
        have e0 := hq c rfl
        subst e0
        have := run_bounds (P := P) w true 0 0 l hh hl hhh rl rh hc.1 hc.2
        have e1 : l = 0 := by omega
        have e2 : hh = 0 := by omega
        subst e1; subst e2
        refine ⟨.slice (some a) 0 0, by simp [Instr.sliceAt, run_underlying hu, Instr.slice, this, run_szT hz], .sl0 _ _ _ _ (by simp) p hE (by simp)⟩
      ·cases h
    ·rename_i mv
     cases hi with
     | none => cases h
     | some hv =>
     cases hm : asIdx mv with
     | none => simp only [hm] at h; cases h
     | some m =>
      simp only [hm] at h
      by_cases hc : l ≤ hh ∧ hh ≤ m ∧ m ≤ cap.most len
      ·rw [if_pos hc] at h
       obtain ⟨h1, h2, h3⟩ := hc
       cases h
       cases rm with
       | some _ mv' hr =>
        obtain ⟨k, _, rfl⟩ := asIdx_sound hm hr
        have key : ∀ (p : Place) (c : Nat), E b = some p → m ≤ c → ∃ v', (Instr.sliceAt t (.slice (some ⟨p.blk, p.off + o, none⟩) len c) lo' hi' (some (.int k (m : Int)))).run P w = .ok v' w ∧ AR E (.sl b (if m = l then o else o + l * sz) (hh - l) (.ex (m - l))) v' := by
         intro p c hE hmc
         have := run_bounds3 (P := P) w len c l hh m (k := k) hl hhh rl rh (by simp) h1 h2 hmc
         by_cases e : m = l
         ·refine ⟨.slice (some ⟨p.blk, p.off + o, none⟩) (hh - l) (m - l), ?_, by rw [if_pos e]; exact .sl _ _ _ p _ hE (by omega)⟩
          subst e
          simp [Instr.sliceAt, run_underlying hu, Instr.slice, this, run_szT hz]
         ·refine ⟨.slice (some ⟨p.blk, p.off + (o + l * sz), none⟩) (hh - l) (m - l), ?_, by rw [if_neg e]; exact .sl _ _ _ p _ hE (by omega)⟩
          simp [Instr.sliceAt, run_underlying hu, Instr.slice, this, run_szT hz, e, add_zero]; omega
        cases rx with
        | sl _ _ _ p c hE hnc => exact key p c hE h3
        | slo _ _ _ z p c hE hext hn => exact key p c hE (Nat.le_trans h3 hn)
        | sl0 _ _ cc a hq p hE hzz =>
         have h3' : m = 0 := by
          cases cap with
          | op z => simp [Cp.most] at h3; omega
          | ex k => have := hq k rfl; simp [Cp.most] at h3; omega
         subst h3'
         have e1 : hh = 0 := by omega
         have e2 : l = 0 := by omega
         subst e1; subst e2
         have := run_bounds3 (P := P) w 0 0 0 0 0 (k := k) hl hhh rl rh (by simp) (Nat.le_refl _) (Nat.le_refl _) (Nat.le_refl _)
         refine ⟨.slice (some a) 0 0, ?_, .sl0 _ _ _ _ (by simp) p hE (by simp)⟩
         simp only [Instr.sliceAt, Sem.run_bind, run_underlying hu, Result.andThen_ok, Instr.slice, this, run_szT hz]
         simp
      ·rw [if_neg hc] at h; cases h
   ·cases h
 ·rename_i n el b o hu
  split at h
  ·rename_i sz l hh hz hl hhh
   cases rm
   split at h
   ·rename_i hc
    cases h
    cases rx with
    | ptr _ _ p hE =>
     have := run_bounds (P := P) w false n n l hh hl hhh rl rh hc.1 hc.2
     by_cases e : n = l
     ·refine ⟨.slice (some ⟨p.blk, p.off + o, none⟩) (hh - l) (n - l), ?_, by rw [if_pos e]; exact .sl _ _ _ p _ hE (by omega)⟩
      subst e
      simp [Instr.sliceAt, run_underlying hu, Instr.sureAddr, this, run_szT hz]
     ·refine ⟨.slice (some ⟨p.blk, p.off + (o + l * sz), none⟩) (hh - l) (n - l), ?_, by rw [if_neg e]; exact .sl _ _ _ p _ hE (by omega)⟩
      simp [Instr.sliceAt, run_underlying hu, Instr.sureAddr, this, run_szT hz, e, add_zero]; omega
   ·cases h
  ·cases h
 ·cases h
theorem foldl_writeAt (cs : Array Value) : ∀ (l : List Value) (off n : Nat), (l.zipIdx n).foldl (fun (cs : Array Value) (p : Value × Nat) => cs.setIfInBounds (off + p.2) p.1) cs = writeAt cs (off + n) l := by
 intro l
 induction l generalizing cs with
 | nil => intro off n; rfl
 | cons v l ih =>
  intro off n
  simp only [List.zipIdx_cons, List.foldl_cons, writeAt]
  rw [ih, Nat.add_assoc]
theorem writeAt_ARs {E : Env} {l : List V} {c : Array Value} {vs : List V} {vs' : List Value} {off : Nat} (r : ARs E l c.toList) (rv : ARs E vs vs') (h : off + vs.length ≤ l.length) :
  ARs E (l.take off ++ vs ++ l.drop (off + vs.length)) (writeAt c off vs').toList := by
 have hl := r.length
 have hv := rv.length
 have hcs : c.size = l.length := by rw [hl]; simp
 refine ARs.of_get (by rw [show (writeAt c off vs').toList.length = c.size from by rw [Array.length_toList, writeAt_size]]; simp; omega) fun i v hi => ?_
 rw [Array.getElem?_toList]
 by_cases h1 : i < off
 ·have : l[i]? = some v := by
   rw [List.append_assoc, List.getElem?_append_left (by simp; omega), List.getElem?_take, if_pos h1] at hi
   exact hi
  obtain ⟨v', a, b⟩ := r.get i v this
  exact ⟨v', by rw [writeAt_out _ _ _ _ (by omega)]; simpa using a, b⟩
 ·by_cases h2 : i < off + vs.length
  ·have : vs[i - off]? = some v := by
    rw [List.append_assoc, List.getElem?_append_right (by simp; omega), List.getElem?_append_left (by simp; omega)] at hi
    rwa [show i - (l.take off).length = i - off by simp; omega] at hi
   obtain ⟨v', a, b⟩ := rv.get (i - off) v this
   refine ⟨v', ?_, b⟩
   have := writeAt_in vs' c off (i - off) (by omega) (by omega)
   rw [show off + (i - off) = i by omega] at this
   rw [this, a]
  ·have : l[i]? = some v := by
    rw [List.getElem?_append_right (by simp; omega), List.getElem?_drop] at hi
    rwa [show off + vs.length + (i - (l.take off ++ vs).length) = i by simp; omega] at hi
   obtain ⟨v', a, b⟩ := r.get i v this
   exact ⟨v', by rw [writeAt_out _ _ _ _ (by omega)]; simpa using a, b⟩
inductive PsR (E : Env) : List (Nat × V) → List (Nat × Value) → Prop where
 | nil : PsR E [] []
 | cons (i : Nat) (v : V) (v' : Value) (l : List (Nat × V)) (l' : List (Nat × Value)) (h : AR E v v') (t : PsR E l l') : PsR E ((i, v) :: l) ((i, v') :: l')
theorem fill_sound {E : Env} {place : Nat → Option (Nat × Nat)} {ps : List (Nat × V)} {ps' : List (Nat × Value)} (rp : PsR E ps ps') : ∀ {cells : List V} {cells' : Array Value} {r : List V}, fillV place cells ps = some r → ARs E cells cells'.toList →
  ∃ r', Instr.fill place cells' ps' = some r' ∧ ARs E r r'.toList := by
 induction rp with
 | nil => intro cells cells' r h rc; simp [fillV] at h; subst h; exact ⟨cells', rfl, rc⟩
 | cons i v v' l l' hv t ih =>
  intro cells cells' r h rc
  simp only [fillV] at h
  split at h
  ·cases h
  ·rename_i off size hp
   split at h
   ·rename_i hc
    obtain ⟨h1, h2⟩ := hc
    have hvc := hv.cells
    have e1 : v'.cells.size = size := by rw [← h1, hvc.length]; simp
    have e2 : cells'.size = cells.length := by rw [rc.length]; simp
    have hcond : ¬ (v'.cells.size ≠ size || off + v'.cells.size > cells'.size) = true := by
     simp only [e1, e2]; simp; omega
    have rw' := writeAt_ARs rc hvc (by rw [h1]; exact h2)
    rw [← h1] at h
    obtain ⟨r', hr, hrr⟩ := ih h rw'
    refine ⟨r', ?_, hrr⟩
    simp only [Instr.fill, hp]
    rw [if_neg hcond]
    have := foldl_writeAt cells' v'.cells.toList off 0
    rw [← Array.foldl_toList, Array.toList_zipIdx, this, Nat.add_zero]
    exact hr
   ·cases h
theorem places_sound {fs : List Field} {pl : List (Nat × Nat)} (w : World) : ∀ {fs : List Field} {pl : List (Nat × Nat)}, places P fs = some pl →
  (fs.mapM (m := Sem) fun f => do pure (f.offset, ← sizeOf f.type)).run P w = .ok pl w
 | [], pl, h => by simp [places] at h; subst h; rfl
 | f :: fs, pl, h => by
  simp only [places] at h
  split at h
  ·rename_i n l h1 h2
   cases h
   have ih := places_sound (fs := fs) (pl := l) w h2
   rw [List.mapM_cons]
   simp only [Sem.run_bind, run_szT h1, Result.andThen_ok, Sem.run_pure]
   rw [ih]; rfl
  ·cases h
theorem evParts_sound {E : Env} {gl : List Nat} {nt : Nat} {tm : T V} {tmps : Array Value} (hg : GL E gl) (r : TR E nt tm tmps) : ∀ {xs : List (Nat × Operand)} {vs : List (Nat × V)}, evParts gl tm xs = some vs → PsR E vs (xs.map fun p => (p.1, evT tmps p.2))
 | [], vs, h => by simp [evParts] at h; subst h; exact .nil
 | (i, x) :: xs, vs, h => by
  simp only [evParts] at h
  split at h
  ·rename_i v l h1 h2
   cases h
   exact .cons _ _ _ _ _ (ev_sound hg r h1) (evParts_sound hg r h2)
  ·cases h
theorem abuild_sound {E : Env} {t : TypeId} {ps : List (Nat × V)} {ps' : List (Nat × Value)} {v : V} (h : abuild P t ps = some v) (r : PsR E ps ps') (w : World) :
  ∃ v', (Instr.build t ps'.toArray).run P w = .ok v' w ∧ AR E v v' := by
 unfold abuild at h
 split at h
 ·rename_i z fields hz hu
  split at h
  ·rename_i pl hpl
   cases hf : fillV (pl[·]?) z.cells ps with
   | none => rw [hf] at h; cases h
   | some l =>
    rw [hf] at h; cases h
    obtain ⟨z', hz', rz⟩ := run_zeroT E hz w
    obtain ⟨c', hc', rc⟩ := fill_sound r hf rz.cells
    refine ⟨.agg c', ?_, .agg _ _ rc⟩
    have hm := places_sound (fs := []) (pl := []) (P := P) w hpl
    have hm' : (fields.mapM (m := Sem) fun f => do pure (f.offset, ← sizeOf f.type)).run P w = .ok pl.toArray w := by
     rw [Array.mapM_eq_mapM_toList, Sem.run_map, hm]; rfl
    simp only [Instr.build, Sem.run_bind, hz', Result.andThen_ok, run_underlying hu, hm']
    have e : (fun x : Nat => pl.toArray[x]?) = (fun x : Nat => pl[x]?) := by funext x; simp
    simp [e, hc']
  ·cases h
 ·rename_i z n el hz hu
  split at h
  ·rename_i n hn
   cases hf : fillV (fun i => some (i * n, n)) z.cells ps with
   | none => rw [hf] at h; cases h
   | some l =>
    rw [hf] at h; cases h
    obtain ⟨z', hz', rz⟩ := run_zeroT E hz w
    obtain ⟨c', hc', rc⟩ := fill_sound r hf rz.cells
    refine ⟨.agg c', ?_, .agg _ _ rc⟩
    simp [Instr.build, hz', run_underlying hu, run_szT hn, hc']
  ·cases h
 ·cases h
theorem keyEq_sound' {E : Env} {k k2 : V} {k' k2' : Value} {b : Bool} {d : TypeDesc} (hf : keyFits d k = true) (h : keyEq k k2 = some b) (r : AR E k k') (r2 : AR E k2 k2') : Instr.sameNow d k' k2' = some b := by
 cases d <;> cases k <;> simp [keyFits] at hf
 all_goals cases k2 <;> simp [keyEq] at h
 ·cases r; cases r2; simp [Instr.sameNow, h]
 ·obtain ⟨rfl, rfl⟩ := h
  cases r; cases r2; simp [Instr.sameNow]
 ·cases r with
  | str _ x e => cases r2 with
   | str _ y e2 => simp only [Instr.sameNow]; rw [beq_toListBytes, str_inj e e2, h]
theorem run_checkKey {d : TypeDesc} {kt : TypeId} (hu : P.underlying kt = some d) {E : Env} {k : V} {k' : Value} (hf : keyFits d k = true) (r : AR E k k') (w : World) (b : Bool) : (Instr.checkKey b 10000 kt k').run P w = .ok () w := by
 cases d <;> cases k <;> simp [keyFits] at hf <;> cases r <;> (rw [show (10000 : Nat) = 9999 + 1 from rfl, Instr.checkKey]; simp [run_underlying hu])
theorem keyOk_fits {kt : TypeId} {k : V} (h : keyOk P kt k = true) : ∃ d, P.underlying kt = some d ∧ keyFits d k = true := by
 unfold keyOk at h
 split at h
 ·rename_i d hd; exact ⟨d, hd, h⟩
 ·cases h
abbrev EntR (E : Env) : V × V → MapEntry → Prop := fun e m => AR E e.1 m.key ∧ AR E e.2 m.val
theorem find_sound {E : Env} {k : V} {k' : Value} {d : TypeDesc} (hf : keyFits d k = true) (rk : AR E k k') {es : List (V × V)} {ents : List MapEntry} (rp : All₂ (EntR E) es ents) : ∀ {r : Option V} (i : Nat), findV k es = some r →
  (r = none ∧ Instr.findNow d k' ents i = some none) ∨ ∃ j v v', r = some v ∧ AR E v v' ∧ Instr.findNow d k' ents i = some (some (i + j, v')) ∧ ∃ e, ents[j]? = some e ∧ e.val = v' := by
 induction rp with
 | nil => intro r i h; simp [findV] at h; subst h; exact .inl ⟨rfl, rfl⟩
 | @cons e m es ents hr t ih =>
  intro r i h
  simp only [findV] at h
  split at h
  ·rename_i hq
   cases h
   have := keyEq_sound' hf hq rk hr.1
   exact .inr ⟨0, e.2, m.val, rfl, hr.2, by simp [Instr.findNow, this], m, rfl, rfl⟩
  ·rename_i hq
   have := keyEq_sound' hf hq rk hr.1
   rcases ih (i + 1) h with ⟨h1, h2⟩ | ⟨j, v, v', h1, h2, h3, e', h4, h5⟩
   ·exact .inl ⟨h1, by simp [Instr.findNow, this, h2]⟩
   ·exact .inr ⟨j + 1, v, v', h1, h2, by simp [Instr.findNow, this, h3]; omega, e', by simpa using h4, h5⟩
  ·cases h
theorem bytesOf_sound {E : Env} : ∀ {l : List V} {bs : List Nat} {l' : List Value}, bytesOf l = some bs → ARs E l l' → l' = (bs.map fun n : Nat => (n : Int)).map (Value.int .u8) ∧ ∀ n ∈ bs, n < 256
 | [], bs, l', h, r => by simp [bytesOf] at h; subst h; cases r; simp
 | v :: l, bs, l', h, r => by
  cases r with
  | cons _ v' _ l2 hv t =>
   cases v with
   | int k n =>
    cases k <;> first | (simp [bytesOf] at h; done) | skip
    cases n with
    | negSucc m => simp [bytesOf] at h
    | ofNat m =>
     simp only [bytesOf] at h
     split at h
     ·rename_i hm
      cases hb : bytesOf l with
      | none => rw [hb] at h; cases h
      | some bs' =>
       rw [hb] at h; cases h
       obtain ⟨e, f⟩ := bytesOf_sound hb t
       cases hv
       refine ⟨by rw [e]; rfl, ?_⟩
       intro n hn
       cases hn with
       | head => exact hm
       | tail _ hn => exact f n hn
     ·cases h
   | _ => simp [bytesOf] at h
theorem fold_push : ∀ (bs : List Nat) (s : ByteArray), (∀ n ∈ bs, n < 256) → ((bs.map fun n : Nat => (n : Int)).foldl (fun (r : ByteArray) (n : Int) => r.push (UInt8.ofNat n.toNat)) s).data.toList.map UInt8.toNat = s.data.toList.map UInt8.toNat ++ bs := by
 intro bs
 induction bs with
 | nil => intro s _; simp
 | cons n bs ih =>
  intro s h
  simp only [List.map_cons, List.foldl_cons]
  rw [ih _ (fun m hm => h m (List.mem_cons_of_mem _ hm))]
  have : n < 256 := h n (List.mem_cons_self ..)
  simp [ByteArray.push, UInt8.toNat_ofNat', Nat.mod_eq_of_lt this]
theorem optR_of {E : Env} {gl : List Nat} {nt : Nat} {tm : T V} {tmps : Array Value} (hg : GL E gl) (r : TR E nt tm tmps) {x : Option Operand} {v : Option V}
  (h : (match x with | none => some none | some x => (ev gl tm x).map some) = some v) : OptR E v (x.map (evT tmps)) := by
 cases x with
 | none => cases h; exact .none
 | some x =>
  simp only at h
  cases he : ev gl tm x with
  | none => rw [he] at h; cases h
  | some u => rw [he] at h; cases h; exact .some _ _ (ev_sound hg r he)
set_option maxHeartbeats 4000000 in
theorem light_sound {E : Env} {gl : List Nat} {nt : Nat} {tm : T V} {tmps : Array Value} {hh : H} {w0 w : World} (m : MR E hh w0 w) (hg : GL E gl) (r : TR E nt tm tmps) {o : Oper} {v : V} (h : alight P gl tm hh o = some v) :
  ∃ v', (execOp (evT tmps) o).run P w = .ok (.value v') w ∧ AR E v v' := by
 have fin : ∀ {s : Sem Value} {v' : Value}, s.run P w = .ok v' w → (do pure (Next.value (← s)) : Sem Next).run P w = .ok (.value v') w := by
  intro s v' hs; simp [hs]
 have wrap : ∀ {s : Sem Value}, (∃ v', s.run P w = .ok v' w ∧ AR E v v') → (execOp (evT tmps) o = do pure (Next.value (← s))) → ∃ v', (execOp (evT tmps) o).run P w = .ok (.value v') w ∧ AR E v v' := by
  rintro s ⟨v', h1, h2⟩ e; exact ⟨v', by rw [e]; exact fin h1, h2⟩
 obtain ⟨dst, op, ty, pos, after, guard⟩ := o
 cases op with
 | move x => exact ⟨_, rfl, ev_sound hg r h⟩
 | assign x => exact ⟨_, rfl, ev_sound hg r h⟩
 | pick c a b =>
  simp only [alight] at h
  split at h
  ·rename_i hc
   have := ev_sound hg r hc
   cases hcv : evT tmps c <;> rw [hcv] at this <;> cases this
   exact ⟨evT tmps a, by simp [execOp, hcv, asBool], ev_sound hg r h⟩
  ·rename_i hc
   have := ev_sound hg r hc
   cases hcv : evT tmps c <;> rw [hcv] at this <;> cases this
   exact ⟨evT tmps b, by simp [execOp, hcv, asBool], ev_sound hg r h⟩
  ·cases h
 | build t parts =>
  simp only [alight] at h
  cases hp : evParts gl tm parts.toList with
  | none => rw [hp] at h; cases h
  | some ps =>
   rw [hp] at h
   refine wrap (abuild_sound h (evParts_sound hg r hp) w) ?_
   simp only [execOp]
   congr 2
   apply Array.toList_inj.1
   simp
 | load t a =>
  simp only [alight] at h
  split at h
  ·rename_i b o ha hagg
   split at h
   ·rename_i n hn
    cases hr : hh.rdN b o n with
    | none => rw [hr] at h; cases h
    | some l =>
     rw [hr] at h; cases h
     have := ev_sound hg r ha
     cases hcv : evT tmps a <;> rw [hcv] at this <;> cases this
     rename_i p hE
     obtain ⟨l', h1, h2, h3, h4, h5⟩ := rdN_sound (P := P) m hE hr
     exact wrap (s := Instr.loadAt t (evT tmps a)) ⟨.agg l'.toArray, by simp [Instr.loadAt, hcv, Instr.sureAddr, loadVar, run_isAggT hagg, run_szT hn, h1], .agg _ _ h2⟩ rfl
   ·cases h
  ·rename_i b o ha hagg
   have := ev_sound hg r ha
   cases hcv : evT tmps a <;> rw [hcv] at this <;> cases this
   rename_i p hE
   obtain ⟨v', h1, h2, h3⟩ := rd_sound m hE h
   exact wrap (s := Instr.loadAt t (evT tmps a)) ⟨v', by simp [Instr.loadAt, hcv, Instr.sureAddr, loadVar, run_isAggT hagg, h1], h2⟩ rfl
  ·cases h
 | nilCheck x =>
  simp only [alight] at h
  split at h
  ·rename_i b o ha
   cases h
   have := ev_sound hg r ha
   cases hcv : evT tmps x <;> rw [hcv] at this <;> cases this
   rename_i p hE
   exact ⟨_, by simp [execOp, hcv], .ptr b o p hE⟩
  ·rename_i f a c ha
   cases h
   have := ev_sound hg r ha
   cases hcv : evT tmps x <;> rw [hcv] at this <;> cases this
   rename_i a' c' h1 h2
   exact ⟨_, by simp [execOp, hcv], .fn f a c a' c' h1 h2⟩
  ·cases h
 | binOp op t x y yt =>
  simp only [alight] at h
  split at h
  ·rename_i a b ha hb
   split at h
   ·rename_i hgu
    have ra := ev_sound hg r ha
    have rb := ev_sound hg r hb
    obtain ⟨v', h1, h2⟩ := abin_sound h ra rb w
    exact ⟨v', by simp [execOp, guard_sound hgu ra rb w, h1], h2⟩
   ·cases h
  ·cases h
 | unOp op t x =>
  simp only [alight] at h
  split at h
  ·rename_i b ha
   cases h
   have := ev_sound hg r ha
   cases hcv : evT tmps x <;> rw [hcv] at this <;> cases this
   exact ⟨_, by simp [execOp, hcv, Op.unary] <;> rfl, .bool _⟩
  ·rename_i k n ha
   cases h
   have := ev_sound hg r ha
   cases hcv : evT tmps x <;> rw [hcv] at this <;> cases this
   exact ⟨_, by simp [execOp, hcv, Op.unary, Op.intArith] <;> rfl, .int _ _⟩
  ·rename_i k n ha
   cases h
   have := ev_sound hg r ha
   cases hcv : evT tmps x <;> rw [hcv] at this <;> cases this
   exact ⟨_, by simp only [execOp, hcv, Op.unary]; rfl, .int _ _⟩
  ·cases h
 | convert s d x =>
  simp only [alight] at h
  split at h
  ·rename_i _ k k2 n hs hd ha
   cases h
   have := ev_sound hg r ha
   cases hcv : evT tmps x <;> rw [hcv] at this <;> cases this
   exact wrap (s := convert s d (evT tmps x)) ⟨_, by simp [hcv, convert, run_underlying hs, run_underlying hd, Conv.intToInt] <;> rfl, .int _ _⟩ rfl
  ·rename_i ds sv hs hd ha
   cases h
   have := ev_sound hg r ha
   cases hcv : evT tmps x <;> rw [hcv] at this <;> cases this
   rename_i e
   refine wrap (s := convert s d (evT tmps x)) ⟨_, ?_, .str _ _ e⟩ rfl
   rw [hcv]
   cases ds <;> simp [convert, run_underlying hs, run_underlying hd]
  ·rename_i el b o len cap hs hd ha
   split at h
   ·rename_i hel
    split at h
    ·rename_i cs hcs
     cases hb : bytesOf cs with
     | none => rw [hb] at h; cases h
     | some bs =>
      rw [hb] at h; cases h
      have := ev_sound hg r ha
      have key : ∀ (l' : List Value) (A : Addr) (c : Nat), (loadCells A len).run P w = .ok l'.toArray w → ARs E cs l' → ∃ v', (convert s d (.slice (some A) len c)).run P w = .ok v' w ∧ AR E (.str bs) v' := by
       intro l' A c hl rl
       obtain ⟨e, f⟩ := bytesOf_sound hb rl
       rw [e] at hl
       refine ⟨_, by rw [run_convert_bytes_string w s d el _ _ _ hs hel hd, run_bytesToString w A len c _ hl], .str _ _ ?_⟩
       rw [fold_push _ _ f]; simp
      cases hcv : evT tmps x <;> rw [hcv] at this <;> cases this
      ·rename_i p hE hnc
       obtain ⟨l', h1, h2, h3, h4, h5⟩ := rdN_sound (P := P) m hE hcs
       refine wrap (s := convert s d (evT tmps x)) ?_ rfl
       rw [hcv]; exact key l' _ _ h1 h2
      ·rename_i z p hE hext hn
       obtain ⟨l', h1, h2, h3, h4, h5⟩ := rdN_sound (P := P) m hE hcs
       refine wrap (s := convert s d (evT tmps x)) ?_ rfl
       rw [hcv]; exact key l' _ _ h1 h2
      ·rename_i A p hE hzz hq
       have hcs0 : cs = [] := by
        unfold H.rdN at hcs
        split at hcs
        ·split at hcs
         ·cases hcs; simp
         ·cases hcs
        ·cases hcs
       subst hcs0
       refine wrap (s := convert s d (evT tmps x)) ?_ rfl
       rw [hcv]; exact key [] _ _ rfl .nil
    ·cases h
   ·cases h
  ·rename_i el hs hd ha
   split at h
   ·rename_i hel
    cases h
    have := ev_sound hg r ha
    cases hcv : evT tmps x <;> rw [hcv] at this <;> cases this
    refine wrap (s := convert s d (evT tmps x)) ⟨_, ?_, .str [] ByteArray.empty rfl⟩ rfl
    rw [hcv, run_convert_bytes_string w s d el _ _ _ hs hel hd]
    rfl
   ·cases h
  ·cases h
 | makeInterface t x =>
  simp only [alight] at h
  cases hu : P.underlying t with
  | none => simp [hu] at h
  | some d =>
   cases ha : ev gl tm x with
   | none => cases d <;> simp [hu, ha] at h
   | some v1 =>
    have rx := ev_sound hg r ha
    have hm : ∀ ms, d ≠ .interface ms := by rintro ms rfl; simp [hu] at h
    have hv : v = .iface t v1 := by cases d <;> simp [hu, ha] at h <;> first | exact h.symm | exact absurd rfl (hm _)
    subst hv
    refine wrap (s := Instr.makeInterface t (evT tmps x)) ⟨_, ?_, .iface t _ _ rx⟩ rfl
    cases d <;> first | exact absurd rfl (hm _) | simp [Instr.makeInterface, run_underlying hu]
 | makeFunc fn first cap =>
  cases fn with
  | func g =>
   simp only [alight] at h
   split at h
   ·rename_i a b ha hb
    cases h
    have r1 := evs_sound hg r ha
    have r2 := evs_sound hg r hb
    exact ⟨.func (.func g) (first.map (evT tmps)) (cap.map (evT tmps)), rfl, .fn _ _ _ _ _ (by simpa using r1) (by simpa using r2)⟩
   ·cases h
  | _ => simp [alight] at h
 | slice t x lo hi mx =>
  simp only [alight] at h
  split at h
  ·rename_i x1 lo1 hi1 mx1 hx hlo hhi hmx
   exact wrap (s := Instr.sliceAt t (evT tmps x) (lo.map (evT tmps)) (hi.map (evT tmps)) (mx.map (evT tmps))) (aslice_sound h (ev_sound hg r hx) (optR_of hg r hlo) (optR_of hg r hhi) (optR_of hg r hmx) w) rfl
  ·cases h
 | fieldAddr s x f =>
  simp only [alight] at h
  split at h
  ·rename_i fs b o hu ha
   cases hf : fs[f]? with
   | none => rw [hf] at h; cases h
   | some fd =>
    rw [hf] at h
    simp only [Option.bind_some] at h
    split at h
    ·rename_i n hn
     cases h
     have := ev_sound hg r ha
     cases hcv : evT tmps x <;> rw [hcv] at this <;> cases this
     rename_i p hE
     refine wrap (s := Instr.fieldAt s (evT tmps x) f) ⟨.pointer (some ⟨p.blk, p.off + (o + fd.offset), none⟩), ?_, .ptr _ _ p hE⟩ rfl
     simp [Instr.fieldAt, run_underlying hu, hf, hcv, Instr.sureAddr, fieldPlace, run_szT hn, add_zero]; omega
    ·cases h
  ·cases h
 | field t x f =>
  simp only [alight] at h
  split at h
  ·rename_i fs cs hu ha
   cases hf : fs[f]? with
   | none => rw [hf] at h; cases h
   | some fd =>
    rw [hf] at h
    simp only [Option.bind_some] at h
    have := ev_sound hg r ha
    cases hcv : evT tmps x <;> rw [hcv] at this <;> cases this
    rename_i cs' hcs
    obtain ⟨v', h1, h2⟩ := partV_sound h hcs w
    exact wrap (s := Instr.field t (evT tmps x) f) ⟨v', by simp [Instr.field, run_underlying hu, hf, hcv, asAgg, h1], h2⟩ rfl
  ·cases h
 | extract x i =>
  simp only [alight] at h
  split at h
  ·rename_i vs ha
   have := ev_sound hg r ha
   cases hcv : evT tmps x <;> rw [hcv] at this <;> cases this
   rename_i cs' hcs
   obtain ⟨v', h1, h2⟩ := hcs.get i v h
   have h1' : cs'[i]? = some v' := by simpa using h1
   exact wrap (s := Instr.extract (evT tmps x) i) ⟨v', by simp [Instr.extract, hcv, h1'], h2⟩ rfl
  ·cases h
 | indexAddr t x i =>
  simp only [alight] at h
  split at h
  ·rename_i len el b o i' hu ha hi
   split at h
   ·rename_i hlt
    cases hn : szT P el with
    | none => rw [hn] at h; cases h
    | some n =>
     rw [hn] at h; cases h
     cases hiv : ev gl tm i with
     | none => rw [hiv] at hi; cases hi
     | some iv =>
      rw [hiv] at hi
      obtain ⟨k, _, e⟩ := asIdx_sound hi (ev_sound hg r hiv)
      have := ev_sound hg r ha
      cases hcv : evT tmps x <;> rw [hcv] at this <;> cases this
      rename_i p hE
      refine wrap (s := Instr.indexAt t (evT tmps x) (evT tmps i)) ⟨.pointer (some ⟨p.blk, p.off + (o + i' * n), none⟩), ?_, .ptr _ _ p hE⟩ rfl
      simp [Instr.indexAt, e, asIntOf, run_underlying hu, hcv, Instr.sureAddr, run_szT hn, hlt, add_zero]; omega
   ·cases h
  ·rename_i el b o len c i' hu ha hi
   split at h
   ·rename_i hlt
    cases hn : szT P el with
    | none => rw [hn] at h; cases h
    | some n =>
     rw [hn] at h; cases h
     cases hiv : ev gl tm i with
     | none => rw [hiv] at hi; cases hi
     | some iv =>
      rw [hiv] at hi
      obtain ⟨k, _, e⟩ := asIdx_sound hi (ev_sound hg r hiv)
      have := ev_sound hg r ha
      have key : ∀ (p : Place) (cc : Nat), E b = some p → evT tmps x = .slice (some ⟨p.blk, p.off + o, none⟩) len cc → ∃ v', (Instr.indexAt t (evT tmps x) (evT tmps i)).run P w = .ok v' w ∧ AR E (.ptr b (o + i' * n)) v' := by
       intro p cc hE hcv
       refine ⟨.pointer (some ⟨p.blk, p.off + (o + i' * n), none⟩), ?_, .ptr _ _ p hE⟩
       simp [Instr.indexAt, e, asIntOf, run_underlying hu, hcv, run_szT hn, hlt, add_zero]; omega
      cases hcv : evT tmps x <;> rw [hcv] at this <;> cases this
      ·rename_i p hE hnc; exact wrap (s := Instr.indexAt t (evT tmps x) (evT tmps i)) (key p _ hE hcv) rfl
      ·rename_i z p hE h1 h2; exact wrap (s := Instr.indexAt t (evT tmps x) (evT tmps i)) (key p _ hE hcv) rfl
      ·omega
   ·cases h
  ·cases h
 | index t x i =>
  simp only [alight] at h
  split at h
  ·rename_i len el cs i' hu ha hi
   split at h
   ·rename_i hlt
    cases hn : szT P el with
    | none => rw [hn] at h; cases h
    | some n =>
     rw [hn] at h
     simp only [Option.bind_some] at h
     cases hiv : ev gl tm i with
     | none => rw [hiv] at hi; cases hi
     | some iv =>
      rw [hiv] at hi
      obtain ⟨k, _, e⟩ := asIdx_sound hi (ev_sound hg r hiv)
      have := ev_sound hg r ha
      cases hcv : evT tmps x <;> rw [hcv] at this <;> cases this
      rename_i cs' hcs
      obtain ⟨v', h1, h2⟩ := partV_sound h hcs w
      refine wrap (s := Instr.index t (evT tmps x) (evT tmps i)) ⟨v', ?_, h2⟩ rfl
      simp [Instr.index, e, asIntOf, run_underlying hu, hcv, run_szT hn, hlt, h1]
   ·cases h
  ·rename_i s i' hu ha hi
   cases hs : s[i']? with
   | none => rw [hs] at h; cases h
   | some c =>
    rw [hs] at h; cases h
    cases hiv : ev gl tm i with
    | none => rw [hiv] at hi; cases hi
    | some iv =>
     rw [hiv] at hi
     obtain ⟨k, _, e⟩ := asIdx_sound hi (ev_sound hg r hiv)
     have := ev_sound hg r ha
     cases hcv : evT tmps x <;> rw [hcv] at this <;> cases this
     rename_i y he
     have hc : ∃ u : UInt8, y.data[i']? = some u ∧ u.toNat = c := by
      rw [← he, List.getElem?_map] at hs
      cases hy : y.data.toList[i']? with
      | none => rw [hy] at hs; cases hs
      | some u => rw [hy] at hs; exact ⟨u, by simpa using hy, by simpa using hs⟩
     obtain ⟨u, hu1, hu2⟩ := hc
     have hy : y[i']? = some u := by
      rw [← hu1]; rfl
     refine wrap (s := Instr.index t (evT tmps x) (evT tmps i)) ⟨.int .u8 u.toNat, ?_, by rw [hu2]; exact .int _ _⟩ rfl
     simp [Instr.index, e, asIntOf, run_underlying hu, hcv, hy]
  ·cases h
 | lookup t x k ok =>
  simp only [alight] at h
  split at h
  ·rename_i kt et mv kv hu ha hk
   split at h
   ·cases h
   ·rename_i hok
    obtain ⟨d, hd, hf⟩ := keyOk_fits hok
    have rk := ev_sound hg r hk
    have rm := ev_sound hg r ha
    have key : ∀ (ents : Array MapEntry) (es : List (V × V)) (q : Option V), All₂ (EntR E) es ents.toList → findV kv es = some q →
      (match q with | some v => some (if ok then V.tup [v, .bool true] else v) | none => (zeroT P et).map fun z => if ok then .tup [z, .bool false] else z) = some v →
      ∃ v', AR E v v' ∧ (Instr.checkKey ents.isEmpty 10000 kt (evT tmps k)).run P w = .ok () w ∧
       ((∃ j u, (Instr.findKey kt (evT tmps k) ents.toList).run P w = .ok (some (j, u)) w ∧ v' = if ok then .tuple #[u, .bool true] else u) ∨
        ((Instr.findKey kt (evT tmps k) ents.toList).run P w = .ok none w ∧ ∃ z', (zeroValue et).run P w = .ok z' w ∧ v' = if ok then .tuple #[z', .bool false] else z')) := by
     intro ents es q rp hq hv
     have hck := run_checkKey hd hf rk w ents.isEmpty
     rcases find_sound hf rk rp 0 hq with ⟨rfl, hn⟩ | ⟨j, u, u', rfl, hu', hn, _⟩
     ·cases hz : zeroT P et with
      | none => rw [hz] at hv; cases hv
      | some z =>
       rw [hz] at hv
       obtain ⟨z', hz', rz⟩ := run_zeroT E hz w
       have hfk : (Instr.findKey kt (evT tmps k) ents.toList).run P w = .ok none w := by
        simp [Instr.findKey, run_underlying hd, hn]
       cases ok with
       | true => cases hv; exact ⟨.tuple #[z', .bool false], .tup _ _ (.cons _ _ _ _ rz (.cons _ _ _ _ (.bool false) .nil)), hck, .inr ⟨hfk, z', hz', rfl⟩⟩
       | false => cases hv; exact ⟨z', rz, hck, .inr ⟨hfk, z', hz', rfl⟩⟩
     ·have hfk : (Instr.findKey kt (evT tmps k) ents.toList).run P w = .ok (some (0 + j, u')) w := by
       simp [Instr.findKey, run_underlying hd, hn]
      cases ok with
      | true => cases hv; exact ⟨.tuple #[u', .bool true], .tup _ _ (.cons _ _ _ _ hu' (.cons _ _ _ _ (.bool true) .nil)), hck, .inl ⟨_, _, hfk, rfl⟩⟩
      | false => cases hv; exact ⟨u', hu', hck, .inl ⟨_, _, hfk, rfl⟩⟩
    refine wrap (s := Instr.lookup t (evT tmps x) (evT tmps k) ok) ?_ rfl
    cases mv with
    | nilm =>
     cases hcv : evT tmps x <;> rw [hcv] at rm <;> cases rm
     obtain ⟨v', h2, h1, h3⟩ := key #[] [] none .nil rfl h
     refine ⟨v', ?_, h2⟩
     have h1' : (Instr.checkKey true 10000 kt (evT tmps k)).run P w = .ok () w := h1
     rcases h3 with ⟨j, u, h3, rfl⟩ | ⟨h3, z', hz', rfl⟩
     ·simp at h3; cases ok <;> simp [Instr.lookup, run_underlying hu, h1', h3]
     ·simp at h3; cases ok <;> simp [Instr.lookup, run_underlying hu, h1', h3, hz']
    | map b =>
     cases hcv : evT tmps x <;> rw [hcv] at rm <;> cases rm
     rename_i p hE
     cases hb : hh.get b with
     | none => simp [hb] at h
     | some ob =>
      cases ob with
      | map es =>
       obtain ⟨ents, clock, h1, h2⟩ := m.obj b _ p hb hE
       have hgo : (getObj p.blk).run P w = .ok (.map ents clock) w := by simp [getObj, Sem.run, h1]
       cases hq : findV kv es with
       | none => simp [hb, hq] at h
       | some q =>
        obtain ⟨v', h4, h5, h6⟩ := key ents es q h2 hq (by cases q <;> simpa [hb, hq] using h)
        refine ⟨v', ?_, h4⟩
        rcases h6 with ⟨j, u, h3, rfl⟩ | ⟨h3, z', hz', rfl⟩
        ·cases ok <;> simp [Instr.lookup, run_underlying hu, hgo, h5, h3]
        ·cases ok <;> simp [Instr.lookup, run_underlying hu, hgo, h5, h3, hz']
      | _ => simp [hb] at h
    | _ => simp at h
  ·cases h
 | typeAssert x xt asserted ok =>
  simp only [alight] at h
  split at h
  ·rename_i ti vi d ha hd
   have rx := ev_sound hg r ha
   cases hcv : evT tmps x <;> rw [hcv] at rx <;> cases rx
   rename_i vi' rv
   refine wrap (s := Instr.typeAssert (evT tmps x) xt asserted ok) ?_ rfl
   rw [hcv]
   have hnot : ∀ ms, d ≠ .interface ms := by rintro ms rfl; simp at h
   have h' : (if ti = asserted then some (if ok then V.tup [vi, .bool true] else vi) else if ok then (zeroT P asserted).map fun z => V.tup [z, .bool false] else none) = some v := by
    cases d <;> first | exact absurd rfl (hnot _) | exact h
   by_cases e : ti = asserted
   ·rw [if_pos e] at h'
    cases ok with
    | true => cases h'; exact ⟨.tuple #[vi', .bool true], by cases d <;> first | exact absurd rfl (hnot _) | simp [Instr.typeAssert, run_underlying hd, e], .tup _ _ (.cons _ _ _ _ rv (.cons _ _ _ _ (.bool true) .nil))⟩
    | false => cases h'; exact ⟨vi', by cases d <;> first | exact absurd rfl (hnot _) | simp [Instr.typeAssert, run_underlying hd, e], rv⟩
   ·rw [if_neg e] at h'
    cases ok with
    | false => simp at h'
    | true =>
     cases hz : zeroT P asserted with
     | none => rw [hz] at h'; cases h'
     | some z =>
      rw [hz] at h'; cases h'
      obtain ⟨z', hz', rz⟩ := run_zeroT E hz w
      exact ⟨.tuple #[z', .bool false], by cases d <;> first | exact absurd rfl (hnot _) | simp [Instr.typeAssert, run_underlying hd, e, hz'], .tup _ _ (.cons _ _ _ _ rz (.cons _ _ _ _ (.bool false) .nil))⟩
  ·rename_i d ha hd
   have rx := ev_sound hg r ha
   cases hcv : evT tmps x <;> rw [hcv] at rx <;> cases rx
   refine wrap (s := Instr.typeAssert (evT tmps x) xt asserted ok) ?_ rfl
   rw [hcv]
   cases ok with
   | false => simp at h
   | true =>
    cases hz : zeroT P asserted with
    | none => rw [hz] at h; cases h
    | some z =>
     rw [hz] at h; cases h
     obtain ⟨z', hz', rz⟩ := run_zeroT E hz w
     exact ⟨.tuple #[z', .bool false], by cases d <;> simp [Instr.typeAssert, run_underlying hd, hz'], .tup _ _ (.cons _ _ _ _ rz (.cons _ _ _ _ (.bool false) .nil))⟩
  ·cases h
 | call c =>
  obtain ⟨callee, args, argTypes⟩ := c
  cases callee with
  | builtin b =>
   simp only [alight] at h
   split at h
   ·cases h
   ·rename_i vs hvs
    have rvs := evs_sound hg r hvs
    have hexe : ∀ (s : Sem Value), builtin b argTypes ty (args.map fun | .const _ => true | _ => false) (args.map (evT tmps)) = (do pure (Next.value (← s)) : Sem Next) →
      execOp (evT tmps) ⟨dst, .call ⟨.builtin b, args, argTypes⟩, ty, pos, after, guard⟩ = (do pure (Next.value (← s)) : Sem Next) := by
     intro s hs; rw [← hs]; rfl
    have hty : ∀ d, (argTypes[0]?).bind P.underlying = some d → ∃ t, argTypes[0]? = some t ∧ P.underlying t = some d := by
     intro d hd
     cases ht : argTypes[0]? with
     | none => rw [ht] at hd; cases hd
     | some t => rw [ht] at hd; exact ⟨t, rfl, hd⟩
    have one : ∀ {v0 : V} {args0 : List Value}, ARs E [v0] args0 → ∃ v0', args0 = [v0'] ∧ AR E v0 v0' := by
     intro v0 args0 ha; cases ha with | cons _ v' _ _ h1 t => cases t; exact ⟨v', rfl, h1⟩
    have two : ∀ {v0 v1 : V} {args0 : List Value}, ARs E [v0, v1] args0 → ∃ a b, args0 = [a, b] ∧ AR E v0 a ∧ AR E v1 b := by
     intro v0 v1 args0 ha
     cases ha with | cons _ v' _ _ h1 t => cases t with | cons _ v'' _ _ h2 t => cases t; exact ⟨v', v'', rfl, h1, h2⟩
    have arr : ∀ {l : List Value}, args.toList.map (evT tmps) = l → args.map (evT tmps) = l.toArray := by
     intro l hl; apply Array.toList_inj.1; simpa using hl
    split at h
    ·rename_i s hd
     cases h
     obtain ⟨t, ht, hu⟩ := hty _ hd
     obtain ⟨a, ha, ra⟩ := one rvs
     cases ra with
     | str _ y e =>
      have hs : y.size = s.length := by rw [← e, List.length_map, Array.length_toList]; rfl
      refine wrap (s := Builtin.len_ argTypes ty (args.map (evT tmps))) ⟨_, ?_, .int _ _⟩ (hexe _ rfl)
      rw [arr ha]; simp [Builtin.len_, ht, run_underlying hu, goInt, hs]
    ·rename_i el hd
     cases h
     obtain ⟨t, ht, hu⟩ := hty _ hd
     obtain ⟨a, ha, ra⟩ := one rvs
     cases ra
     refine wrap (s := Builtin.len_ argTypes ty (args.map (evT tmps))) ⟨_, ?_, .int _ _⟩ (hexe _ rfl)
     rw [arr ha]; simp [Builtin.len_, ht, run_underlying hu, goInt]
    ·rename_i b0 o0 n c el hd
     cases h
     obtain ⟨t, ht, hu⟩ := hty _ hd
     obtain ⟨a, ha, ra⟩ := one rvs
     refine wrap (s := Builtin.len_ argTypes ty (args.map (evT tmps))) ⟨.int .i64 n, ?_, .int _ _⟩ (hexe _ rfl)
     rw [arr ha]; cases ra <;> simp [Builtin.len_, ht, run_underlying hu, goInt]
    ·rename_i k0 e0 hd
     cases h
     obtain ⟨t, ht, hu⟩ := hty _ hd
     obtain ⟨a, ha, ra⟩ := one rvs
     cases ra
     refine wrap (s := Builtin.len_ argTypes ty (args.map (evT tmps))) ⟨_, ?_, .int _ _⟩ (hexe _ rfl)
     rw [arr ha]; simp [Builtin.len_, ht, run_underlying hu, goInt]
    ·rename_i b0 k0 e0 hd
     obtain ⟨t, ht, hu⟩ := hty _ hd
     obtain ⟨a, ha, ra⟩ := one rvs
     cases ra with
     | map _ p hE =>
      cases hb : hh.get b0 with
      | none => simp [hb] at h
      | some ob =>
       cases ob with
       | map es =>
        obtain ⟨ents, clock, h1, h2⟩ := m.obj b0 _ p hb hE
        have hgo : (getObj p.blk).run P w = .ok (.map ents clock) w := by simp [getObj, Sem.run, h1]
        simp [hb] at h
        subst h
        have hlen : ents.size = es.length := by rw [h2.length]; simp
        refine wrap (s := Builtin.len_ argTypes ty (args.map (evT tmps))) ⟨_, ?_, .int _ _⟩ (hexe _ rfl)
        rw [arr ha]; simp [Builtin.len_, ht, run_underlying hu, goInt, hgo, hlen]
       | _ => simp [hb] at h
    ·rename_i b0 o0 n c el hd
     cases h
     obtain ⟨t, ht, hu⟩ := hty _ hd
     obtain ⟨a, ha, ra⟩ := one rvs
     refine wrap (s := Builtin.cap_ argTypes ty (args.map (evT tmps))) ⟨.int .i64 c, ?_, .int _ _⟩ (hexe _ rfl)
     rw [arr ha]
     cases ra with
     | sl _ _ _ p _ hE hnc => simp [Builtin.cap_, ht, run_underlying hu, goInt]
     | sl0 _ _ _ A hq p hE hzz => have := hq c rfl; subst this; simp [Builtin.cap_, ht, run_underlying hu, goInt]
    ·rename_i k a k' b hd
     split at h
     ·rename_i e
      subst e; cases h
      obtain ⟨a', b', ha, ra, rb⟩ := two rvs
      cases ra; cases rb
      refine wrap (s := Builtin.max_ argTypes ty (args.map (evT tmps))) ⟨_, ?_, .int _ _⟩ (hexe _ rfl)
      rw [arr ha]; simp [Builtin.max_, Builtin.max2]
     ·cases h
    ·rename_i k a k' b hd
     split at h
     ·rename_i e
      subst e; cases h
      obtain ⟨a', b', ha, ra, rb⟩ := two rvs
      cases ra; cases rb
      refine wrap (s := Builtin.min_ argTypes ty (args.map (evT tmps))) ⟨_, ?_, .int _ _⟩ (hexe _ rfl)
      rw [arr ha]; simp [Builtin.min_, Builtin.min2]
     ·cases h
    ·cases h
  | value f => simp [alight] at h
  | invoke f n => simp [alight] at h
 | _ => simp [alight] at h
end
end Go.AM
end
section
/- The abstract machine: operations that make memory. -/
set_option linter.unusedVariables false
set_option linter.unusedSimpArgs false
namespace Go.AM
noncomputable section
open Go.RowKit
variable {P : Program}
theorem zeros_length (z : List V) : ∀ k, (zeros z k).length = k * z.length
 | 0 => by simp [zeros]
 | k + 1 => by simp [zeros, zeros_length z k, Nat.add_mul]; omega
theorem zeros_get (z : List V) : ∀ (k i : Nat), i < k * z.length → (zeros z k)[i]? = z[i % z.length]?
 | 0, i, h => by simp at h
 | k + 1, i, h => by
  rw [zeros]
  by_cases hi : i < z.length
  ·rw [List.getElem?_append_left hi, Nat.mod_eq_of_lt hi]
  ·rw [List.getElem?_append_right (by omega), zeros_get z k _ (by rw [Nat.add_mul] at h; omega)]
   congr 1
   exact (Nat.mod_eq_sub_mod (by omega)).symm
theorem zeros_sound {E : Env} {z : List V} {z' : Array Value} (r : ARs E z z'.toList) (k n : Nat) (hn : z.length = n) :
  ARs E (zeros z k) ((Array.range (k * n)).map (z'[· % z'.size]!)).toList := by
 have hz : z'.size = n := by have := r.length; simp at this; omega
 refine ARs.of_get (by rw [zeros_length, hn]; simp) fun i v hi => ?_
 have hlt : i < k * n := by
  rcases Nat.lt_or_ge i (k * n) with g | g
  ·exact g
  ·rw [List.getElem?_eq_none (by rw [zeros_length, hn]; exact g)] at hi; cases hi
 rw [zeros_get z k i (by rw [hn]; exact hlt), hn] at hi
 obtain ⟨v', h1, h2⟩ := r.get _ _ hi
 refine ⟨v', ?_, h2⟩
 have h1' : z'[i % n]? = some v' := by simpa using h1
 have hlt2 : i % n < z'.size := by
  rcases Nat.lt_or_ge (i % n) z'.size with g | g
  ·exact g
  ·rw [Array.getElem?_eq_none g] at h1'; cases h1'
 rw [Array.getElem?_toList, Array.getElem?_map, Array.getElem?_range, if_pos hlt, Option.map_some, hz, getElem!_pos z' (i % n) hlt2]
 rw [Array.getElem?_eq_getElem hlt2] at h1'
 exact h1'
theorem zeros_all {z : List V} (h : z.all V.isCell = true) : ∀ k, (zeros z k).all V.isCell = true
 | 0 => rfl
 | k + 1 => by rw [zeros, List.all_append, h, zeros_all h k]; rfl
theorem cells_obj {E : Env} {w : World} {l : List V} {c : Array Value} (r : ARs E l c.toList) (hc : l.all V.isCell = true) (opn : Bool) (t : TypeId) (ext : Nat) (h1 : l.length ≤ ext) (c2 : Array Value) (h2 : ext ≤ c2.size)
  (h3 : ∀ i, i < l.length → c2[i]? = c[i]?) (lo hi : Nat) (h4 : ∀ i, i < c2.size → ¬ (lo ≤ i ∧ i < hi)) :
  ObjR E (.cells opn l) ⟨w.heap.size, 0, ext⟩ { w with heap := w.heap.push (.cells c2 t (lo, hi)) } := by
 refine ⟨c2, t, lo, hi, by simp, h4, by simpa using h2, h1, fun i v hv => ?_⟩
 have hi' : i < l.length := (List.getElem?_eq_some_iff.1 hv).1
 obtain ⟨v', a, b⟩ := r.get i v hv
 refine ⟨List.all_eq_true.1 hc v (List.mem_of_getElem? hv), v', ?_, b⟩
 rw [Nat.zero_add, h3 i hi']; simpa using a
def AllocR (P : Program) (gl : List Nat) (nt : Nat) (tm : T V) (o : Oper) (b : Nat) (ob : Obj) (v : V) : Prop :=
 ∀ (E : Env) (w : World) (tmps : Array Value), GL E gl → TR E nt tm tmps →
  ∃ v' cob n p, (execOp (evT tmps) o).run P w = .ok (.value v') { w with heap := w.heap.push cob, drawn := n } ∧ p.blk = w.heap.size ∧
   ObjR E ob p { w with heap := w.heap.push cob } ∧ ∀ E' : Env, E' b = some p → AR E' v v'
theorem map_new {h : H} {ob : Obj} {f : Nat → V} {v : V} {h1 : H} (hn : ((h.new ob).map fun (b, h) => (f b, h)) = some (v, h1)) : ∃ b, h.new ob = some (b, h1) ∧ v = f b := by
 cases hq : h.new ob with
 | none => rw [hq] at hn; cases hn
 | some q => rw [hq] at hn; cases hn; exact ⟨q.1, rfl, rfl⟩
theorem wrap_small {n : Nat} (h : n ≤ 65536) : IntKind.i64.wrap (n : Int) = n := by
 simp [IntKind.wrap, IntKind.bits, IntKind.signed]; omega
set_option maxHeartbeats 1000000 in
theorem alloc_sound {gl : List Nat} {nt : Nat} {tm : T V} {h h1 : H} {o : Oper} {v : V} (ha : aalloc P gl tm h o = some (v, h1)) :
  ∃ b ob, h.new ob = some (b, h1) ∧ AllocR P gl nt tm o b ob v := by
 obtain ⟨dst, op, ty, pos, after, guard⟩ := o
 have wrap : ∀ {ρ : Operand → Value} {s : Sem Value} {v' : Value} {w w' : World}, s.run P w = .ok v' w' → (do pure (Next.value (← s)) : Sem Next).run P w = .ok (.value v') w' := by
  intro ρ s v' w w' hs; simp [hs]
 cases op with
 | alloc t =>
  simp only [aalloc] at ha
  split at ha
  ·rename_i z hz
   split at ha
   ·rename_i hall
    obtain ⟨b, hn, rfl⟩ := map_new (f := fun b => V.ptr b 0) ha
    refine ⟨b, _, hn, fun E w tmps hg r => ?_⟩
    obtain ⟨z', hz', rz⟩ := run_zeroT E hz w
    have rc := rz.cells
    refine ⟨.pointer (some ⟨w.heap.size, 0, none⟩), .cells z'.cells t, w.drawn, ⟨w.heap.size, 0, z'.cells.size⟩, ?_, rfl, ?_, fun E' hE => .ptr b 0 _ hE⟩
    ·refine wrap (ρ := evT tmps) ?_
     simp [Instr.alloc, hz', newVar, newRow]
    ·exact cells_obj rc hall _ _ _ (by rw [rc.length]; simp) _ (Nat.le_refl _) (fun _ _ => rfl) 0 0 (by omega)
   ·cases ha
  ·cases ha
 | box t x =>
  simp only [aalloc] at ha
  split at ha
  ·rename_i z hz
   split at ha
   ·rename_i hall
    obtain ⟨b, hn, rfl⟩ := map_new (f := fun b => V.ptr b 0) ha
    refine ⟨b, _, hn, fun E w tmps hg r => ?_⟩
    have rc := (ev_sound hg r hz).cells
    refine ⟨.pointer (some ⟨w.heap.size, 0, none⟩), .cells (evT tmps x).cells t, w.drawn, ⟨w.heap.size, 0, (evT tmps x).cells.size⟩, ?_, rfl, ?_, fun E' hE => .ptr b 0 _ hE⟩
    ·refine wrap (ρ := evT tmps) ?_
     simp [Instr.box, newVar, newRow]
    ·exact cells_obj rc hall _ _ _ (by rw [rc.length]; simp) _ (Nat.le_refl _) (fun _ _ => rfl) 0 0 (by omega)
   ·cases ha
  ·cases ha
 | buildSlice t len parts =>
  simp only [aalloc] at ha
  split at ha
  ·rename_i el ps hu hps
   split at ha
   ·rename_i n z hn hz
    split at ha
    ·rename_i hc
     split at ha
     ·rename_i cs hcs
      split at ha
      ·rename_i hall
       obtain ⟨b, hnew, rfl⟩ := map_new (f := fun b => V.sl b 0 len (.ex len)) ha
       refine ⟨b, _, hnew, fun E w tmps hg r => ?_⟩
       obtain ⟨z', hz', rz⟩ := run_zeroT E hz w
       have rp := evParts_sound hg r hps
       have rzz := zeros_sound rz.cells len n hc.2
       have hl24 : ¬ len * n > 2 ^ 24 := by omega
       by_cases h0 : len * n = 0
       ·have e : (Array.range (len * n)).map ((z'.cells)[· % z'.cells.size]!) = #[] := by rw [h0]; simp
        rw [e] at rzz
        obtain ⟨c', hf, rc⟩ := fill_sound rp hcs rzz
        refine ⟨.slice (some ⟨w.heap.size, 0, none⟩) len len, .cells c' el, w.drawn, ⟨w.heap.size, 0, c'.size⟩, ?_, rfl, ?_, fun E' hE => .sl b 0 len _ len hE (Nat.le_refl _)⟩
        ·refine wrap (ρ := evT tmps) ?_
         have hf' : Instr.fill (fun i => some (i * n, n)) #[] (parts.map fun p => (p.1, evT tmps p.2)).toList = some c' := by simpa using hf
         have e2 : (Array.range (len * n)).map ((#[] : Array Value)[· % (#[] : Array Value).size]!) = #[] := by rw [h0]; simp
         simp only [Instr.buildSlice, Sem.run_bind, run_underlying hu, run_szT hn, Result.andThen_ok, if_neg hl24, Sem.run_ite, if_pos h0, Sem.run_pure, e2, hf']
         simp [newRow]
        ·exact cells_obj rc hall _ _ _ (by rw [rc.length]; simp) _ (Nat.le_refl _) (fun _ _ => rfl) 0 0 (by omega)
       ·obtain ⟨c', hf, rc⟩ := fill_sound rp hcs rzz
        refine ⟨.slice (some ⟨w.heap.size, 0, none⟩) len len, .cells c' el, w.drawn, ⟨w.heap.size, 0, c'.size⟩, ?_, rfl, ?_, fun E' hE => .sl b 0 len _ len hE (Nat.le_refl _)⟩
        ·refine wrap (ρ := evT tmps) ?_
         have hf' : Instr.fill (fun i => some (i * n, n)) ((Array.range (len * n)).map ((z'.cells)[· % z'.cells.size]!)) (parts.map fun p => (p.1, evT tmps p.2)).toList = some c' := by simpa using hf
         simp only [Instr.buildSlice, Sem.run_bind, run_underlying hu, run_szT hn, Result.andThen_ok, if_neg hl24, Sem.run_ite, if_neg h0, hz', Sem.run_pure, hf']
         simp [newRow]
        ·exact cells_obj rc hall _ _ _ (by rw [rc.length]; simp) _ (Nat.le_refl _) (fun _ _ => rfl) 0 0 (by omega)
      ·cases ha
     ·cases ha
    ·cases ha
   ·cases ha
  ·cases ha
 | makeMap t res =>
  have key : ∀ b, h.new (.map []) = some (b, h1) → v = .map b → (∀ (E : Env) (w : World) (tmps : Array Value), GL E gl → TR E nt tm tmps → (Instr.makeMap t (res.map (evT tmps))).run P w = .ok (.map (some w.heap.size)) { w with heap := w.heap.push (.map #[] 0) }) →
    ∃ b ob, h.new ob = some (b, h1) ∧ AllocR P gl nt tm ⟨dst, .makeMap t res, ty, pos, after, guard⟩ b ob v := by
   rintro b hn rfl hrun
   refine ⟨b, _, hn, fun E w tmps hg r => ?_⟩
   refine ⟨_, .map #[] 0, w.drawn, ⟨w.heap.size, 0, 0⟩, wrap (ρ := evT tmps) (hrun E w tmps hg r), rfl, ⟨#[], 0, by simp, .nil⟩, fun E' hE => .map b _ hE⟩
  simp only [aalloc] at ha
  split at ha
  ·obtain ⟨b, hn, rfl⟩ := map_new (f := fun b => V.map b) ha
   exact key b hn rfl fun E w tmps hg r => by simp [Instr.makeMap]
  ·rename_i x
   split at ha
   ·rename_i k el kk nn hu hx
    obtain ⟨b, hn, rfl⟩ := map_new (f := fun b => V.map b) ha
    refine key b hn rfl fun E w tmps hg r => ?_
    have := ev_sound hg r hx
    cases hcv : evT tmps x <;> rw [hcv] at this <;> cases this
    simp [Instr.makeMap, run_underlying hu, hcv, asInt, asIntOf]
   ·cases ha
 | makeSlice t l c =>
  simp only [aalloc] at ha
  split at ha
  ·rename_i el l' c' hu hl hc
   split at ha
   ·rename_i n z i hn hz hi
    split at ha
    ·rename_i hcond
     obtain ⟨q1, q2, q3, q4, q5, q6⟩ := hcond
     obtain ⟨b, hnew, rfl⟩ := map_new (f := fun b => V.sl b 0 l' (.ex c')) ha
     refine ⟨b, _, hnew, fun E w tmps hg r => ?_⟩
     cases hlv : ev gl tm l with
     | none => rw [hlv] at hl; cases hl
     | some lv =>
     cases hcv : ev gl tm c with
     | none => rw [hcv] at hc; cases hc
     | some cv =>
     rw [hlv] at hl; rw [hcv] at hc
     obtain ⟨k1, _, e1⟩ := asIdx_sound hl (ev_sound hg r hlv)
     obtain ⟨k2, _, e2⟩ := asIdx_sound hc (ev_sound hg r hcv)
     obtain ⟨z', hz', rz⟩ := run_zeroT E hz w
     have rzz := zeros_sound rz.cells c' n q5
     have w1 := wrap_small q3
     have w2 := wrap_small (show l' ≤ 65536 by omega)
     have hb : ¬ (i.bytes : Int) * (c' : Int) > 2 ^ 48 := by
      have : i.bytes * c' ≤ 65536 * 65536 := Nat.mul_le_mul q4 q3
      have e3 : ((i.bytes * c' : Nat) : Int) = (i.bytes : Int) * (c' : Int) := Int.natCast_mul ..
      rw [← e3]
      generalize i.bytes * c' = mm at *
      omega
     have hb' : ¬ (281474976710656 : Int) < (i.bytes : Int) * (c' : Int) := hb
     have er : Array.range 0 = #[] := by simp
     have hlc : ¬ ((l' : Int) > (c' : Int)) := by omega
     have hl0 : ¬ ((l' : Int) < 0) := by omega
     have hc0 : ¬ ((c' : Int) < 0) := by omega
     by_cases h0 : c' * n = 0
     ·have e : (Array.range (c' * n)).map ((z'.cells)[· % z'.cells.size]!) = #[] := by rw [h0]; simp
      rw [e] at rzz
      refine ⟨.slice (some ⟨w.heap.size, 0, none⟩) l' c', .cells #[] el, w.drawn, ⟨w.heap.size, 0, 0⟩, ?_, rfl, ?_, fun E' hE => .sl b 0 l' _ c' hE q1⟩
      ·refine wrap (ρ := evT tmps) ?_
       simp [Instr.makeSlice, run_underlying hu, e1, e2, asInt, asIntOf, run_info hi, w1, w2, hb', er, hlc, hl0, hc0, run_szT hn, h0, newRow]
      ·exact cells_obj rzz (zeros_all q6 _) _ _ _ (by rw [zeros_length, q5, h0]; omega) _ (by simp) (fun _ _ => rfl) 0 0 (by omega)
     ·refine ⟨.slice (some ⟨w.heap.size, 0, none⟩) l' c', .cells ((Array.range (c' * n)).map ((z'.cells)[· % z'.cells.size]!)) el, w.drawn, ⟨w.heap.size, 0, c' * n⟩, ?_, rfl, ?_, fun E' hE => .sl b 0 l' _ c' hE q1⟩
      ·refine wrap (ρ := evT tmps) ?_
       simp [Instr.makeSlice, run_underlying hu, e1, e2, asInt, asIntOf, run_info hi, w1, w2, hb', er, hlc, hl0, hc0, run_szT hn, h0, newRow, hz']
      ·exact cells_obj rzz (zeros_all q6 _) _ _ _ (by rw [zeros_length, q5]; omega) _ (by simp) (fun _ _ => rfl) 0 0 (by omega)
    ·cases ha
   ·cases ha
  ·cases ha
 | convert s d x =>
  simp only [aalloc] at ha
  split at ha
  ·rename_i ds el bs hs hd hx
   split at ha
   ·rename_i hel
    obtain ⟨b, hnew, rfl⟩ := map_new (f := fun b => V.sl b 0 bs.length (.op 1)) ha
    refine ⟨b, _, hnew, fun E w tmps hg r => ?_⟩
    have := ev_sound hg r hx
    cases hcv : evT tmps x <;> rw [hcv] at this <;> cases this
    rename_i y e
    have hy : y.size = bs.length := by rw [← e, List.length_map, Array.length_toList]; rfl
    let c : Array Value := (y.data.map fun b => Value.int .u8 b.toNat)
    let cap : Nat := (Question.appendCap y.size 0 el).cut (w.tape w.drawn (.appendCap y.size 0 el))
    have hcap : y.size ≤ cap := Nat.le_add_right _ _
    have hcs : c.size = y.size := by simp [c]
    let c2 : Array Value := c ++ Array.replicate (cap - y.size) (.int .u8 0)
    have hc2 : c2.size = cap := by simp [c2, hcs]; omega
    have rc : ARs E (bs.map fun n : Nat => V.int .u8 n) c.toList := by
     refine ARs.of_get (by simp [c, ← hy]) fun i v hv => ?_
     rw [List.getElem?_map] at hv
     cases hbi : bs[i]? with
     | none => rw [hbi] at hv; cases hv
     | some nb =>
      rw [hbi] at hv; cases hv
      rw [← e, List.getElem?_map] at hbi
      cases hyi : y.data.toList[i]? with
      | none => rw [hyi] at hbi; cases hbi
      | some u =>
       rw [hyi] at hbi
       have : u.toNat = nb := by simpa using hbi
       refine ⟨.int .u8 u.toNat, by simp [c]; exact ⟨u, by simpa using hyi, rfl⟩, by rw [this]; exact .int _ _⟩
    refine ⟨.slice (some ⟨w.heap.size, 0, none⟩) bs.length cap, .cells c2 el (cap, cap + 1), w.drawn + 1, ⟨w.heap.size, 0, cap⟩, ?_, rfl, ?_, fun E' hE => .slo b 0 bs.length 1 _ cap hE (by simp) (by omega)⟩
    ·refine wrap (ρ := evT tmps) ?_
     have hconv : (convert s d (.string y)).run P w = (Conv.stringToBytes el y).run P w := by
      simp [convert, run_underlying hs, run_underlying hd, run_underlying hel]
     rw [hcv, hconv]
     have hsh : ({ w with heap := w.heap.push (.cells c2 el), drawn := w.drawn + 1 } : World).shape? w.heap.size = some (el, cap) := by
      simp [World.shape?, hc2]
     have hfz : ({ w with heap := w.heap.push (.cells c2 el), drawn := w.drawn + 1 } : World).freeze ⟨w.heap.size, cap, none⟩ 1 = { w with heap := w.heap.push (.cells c2 el (cap, cap + 1)), drawn := w.drawn + 1 } := by
      simp only [World.freeze, Nat.one_ne_zero, if_false]
      congr 1
      apply Array.ext_getElem?
      intro k
      rw [Array.getElem?_modify]
      by_cases hk : w.heap.size = k
      ·subst hk; simp
      ·rw [if_neg hk]
       simp only [Array.getElem?_push]
       rw [if_neg (fun e => hk e.symm), if_neg (fun e => hk e.symm)]
     have hq : (Question.appendCap y.size 0 el).forced = false := rfl
     have hrun : (newRow el (c ++ Array.replicate (cap - y.size) (Value.int .u8 0))).run P { w with drawn := w.drawn + 1 } = .ok ⟨w.heap.size, 0, none⟩ { w with heap := w.heap.push (.cells c2 el), drawn := w.drawn + 1 } := by
      rfl
     have hmk : (markStringish ⟨w.heap.size, 0, none⟩).run P { w with heap := w.heap.push (.cells c2 el), drawn := w.drawn + 1 } = .ok () { w with heap := w.heap.push (.cells c2 el (cap, cap + 1)), drawn := w.drawn + 1 } := by
      simp only [markStringish, Sem.run_bind, run_shape, Result.andThen_ok, hsh, run_freeze, hfz]
     simp only [Conv.stringToBytes, Sem.run_bind, run_choose, hq, Bool.false_eq_true, if_false, Result.andThen_ok]
     rw [show (Array.map (fun b : UInt8 => Value.int .u8 (b.toNat : Int)) y.data ++ Array.replicate (cap - y.size) (Value.int .u8 0)) = c ++ Array.replicate (cap - y.size) (Value.int .u8 0) from rfl, hrun]
     simp only [Result.andThen_ok, hmk, Sem.run_pure]
     rw [← hy]
    ·exact cells_obj rc (by simp [V.isCell]) _ _ _ (by simp; omega) _ (by rw [hc2]; exact Nat.le_refl _) (fun i hi => by
      simp only [c2]
      rw [Array.getElem?_append_left (by rw [hcs, hy]; simpa using hi)]) _ _ (by omega)
   ·cases ha
  ·cases ha
 | _ => simp [aalloc] at ha
end
end Go.AM
end
section
/- The abstract machine: stores, append and other changes. -/
set_option linter.unusedVariables false
set_option linter.unusedSimpArgs false
namespace Go.AM
noncomputable section
open Go.RowKit
variable {P : Program}
theorem store_sound {E : Env} {gl : List Nat} {nt : Nat} {tm : T V} {tmps : Array Value} {h h' : H} {w0 w : World} (m : MR E h w0 w) (hg : GL E gl) (r : TR E nt tm tmps) {o : Oper} (hs : astore P gl tm h o = some h') :
  ∃ w', (execOp (evT tmps) o).run P w = .ok .skip w' ∧ MR E h' w0 w' ∧ Ext E h E h' := by
 obtain ⟨dst, op, ty, pos, after, guard⟩ := o
 cases op with
 | store t a x =>
  simp only [astore] at hs
  split at hs
  ·rename_i b o v n ha hx hn
   split at hs
   ·rename_i hlen
    have ra := ev_sound hg r ha
    have rx := (ev_sound hg r hx).cells
    cases hcv : evT tmps a <;> rw [hcv] at ra <;> cases ra
    rename_i p hE
    obtain ⟨h1, h2, h3⟩ := wrN_sound (P := P) m hs hE rx
    refine ⟨_, ?_, h2, h3⟩
    have hsz : (evT tmps x).cells.size = n := by rw [← hlen, rx.length]; simp
    have e1 : Sem.run P (Instr.storeAt t (evT tmps a) (evT tmps x)) w = .ok () (w.setCells p.blk (p.off + o) (evT tmps x).cells.toList) := by
     rw [hcv]
     simp only [Instr.storeAt, Instr.sureAddr, Sem.run_bind, Sem.run_pure, Result.andThen_ok, storeVar, run_szT hn, hsz, ne_eq, not_true, if_false, h1]
    simp only [execOp, Sem.run_bind, e1, Result.andThen_ok, Sem.run_pure]
   ·cases hs
  ·cases hs
 | _ => simp [astore] at hs
theorem re_place {E : Env} {h : H} {w0 w w1 : World} (m : MR E h w0 w) {b : Nat} {p : Place} (hb : b < h.nxt) (hE : E b = none) (hg : glim ≤ b) (hlt : p.blk < w.heap.size) (hown : w0.heap.size ≤ p.blk)
  (hfree : ∀ k o q, h.get k = some o → E k = some q → q.blk ≠ p.blk) (hother : ∀ k, k ≠ p.blk → w1.heap[k]? = w.heap[k]?) (hsize : w1.heap.size = w.heap.size) (hos : w1.os = w.os) (htape : w1.tape = w.tape) (hout : w1.output = w.output)
  (hobj : ∀ o, h.get b = some o → ObjR (upd E b p) o p w1) : MR (upd E b p) h w0 w1 := by
 have hle := upd_le (p := p) hE
 have hup : ∀ k q, upd E b p k = some q → k ≠ b → E k = some q := by
  intro k q hk hne; unfold upd at hk; rwa [if_neg hne] at hk
 have hub : ∀ q, upd E b p b = some q → q = p := by intro q hq; unfold upd at hq; rw [if_pos rfl] at hq; exact (Option.some.inj hq).symm
 refine ⟨⟨hos.trans m.below.os, htape.trans m.below.tape, hout.trans m.below.output, by rw [hsize]; exact m.below.size, fun k hk => ?_⟩, fun k hk => ?_, m.glo, m.lim, fun k o q hk hq => ?_, m.glb, fun k q hk hq => ?_, fun k q hq => ?_, fun k k' o o' q q' hne hk hk' hq hq' => ?_⟩
 ·rw [hother k (by omega)]; exact m.below.block k hk
 ·refine ⟨?_, (m.fresh k hk).2⟩
  unfold upd; rw [if_neg (by omega)]; exact (m.fresh k hk).1
 ·by_cases e : k = b
  ·subst e; rw [hub q hq]; exact hobj o hk
  ·have hq' := hup k q hq e
   exact ((m.obj k o q hk hq').mono hle).world (hother _ (hfree k o q hk hq'))
 ·by_cases e : k = b
  ·subst e; rw [hub q hq]; exact hown
  ·exact m.own k q hk (hup k q hq e)
 ·rw [hsize]
  by_cases e : k = b
  ·subst e; rw [hub q hq]; exact hlt
  ·exact m.lt k q (hup k q hq e)
 ·by_cases e : k = b
  ·by_cases e' : k' = b
   ·exact absurd (e.trans e'.symm) hne
   ·subst e; rw [hub q hq]; exact (hfree k' o' q' hk' (hup k' q' hq' e')).symm
  ·by_cases e' : k' = b
   ·subst e'; rw [hub q' hq']; exact hfree k o q hk (hup k q hq e)
   ·exact m.apart k k' o o' q q' hne hk hk' (hup k q hq e) (hup k' q' hq' e')
theorem lenV_sound {E : Env} {x : V} {x' : Value} {n : Nat} (h : lenV x = some n) (r : AR E x x') (w : World) : (Builtin.lenOf x').run P w = .ok n w := by
 cases x <;> simp [lenV] at h <;> subst h
 ·rename_i s
  cases r with | str _ y e =>
  have : y.size = s.length := by rw [← e, List.length_map, Array.length_toList]; rfl
  simp [Builtin.lenOf, this]
 ·cases r; simp [Builtin.lenOf]
 ·cases r <;> simp [Builtin.lenOf]
theorem bytes_cells {E : Env} {s : List Nat} {y : ByteArray} (e : y.data.toList.map UInt8.toNat = s) : ARs E (s.map fun n : Nat => V.int .u8 n) ((y.extract 0 s.length).data.map fun b => Value.int .u8 b.toNat).toList := by
 have hs : y.data.size = s.length := by rw [← e]; simp
 have he : (y.extract 0 s.length).data.toList = y.data.toList := by
  rw [ByteArray.data_extract, Array.toList_extract]; simp [List.extract]; rw [List.take_of_length_le (by simp [hs])]
 rw [Array.toList_map, he, ← e]
 generalize y.data.toList = l
 induction l with
 | nil => exact .nil
 | cons a l ih => exact .cons _ _ _ _ (.int _ _) ih
theorem cellsOf_sound {E : Env} {h : H} {w0 w : World} (m : MR E h w0 w) {x : V} {x' : Value} {sz n : Nat} {l : List V} (hl : cellsOf h sz x = some l) (hn : lenV x = some n) (r : AR E x x') :
  ∃ c : Array Value, (Builtin.firstCells sz n x').run P w = .ok c w ∧ ARs E l c.toList := by
 cases x <;> simp [cellsOf, lenV] at hl hn
 ·subst hn; subst hl
  cases r with | str _ y e => exact ⟨_, rfl, bytes_cells e⟩
 ·subst hl; cases r; exact ⟨#[], rfl, .nil⟩
 ·rename_i b o len c
  subst hn
  cases r with
  | sl _ _ _ p _ hE _ => obtain ⟨l', h1, h2, _⟩ := rdN_sound (P := P) m hE hl; exact ⟨l'.toArray, h1, by simpa using h2⟩
  | slo _ _ _ z p _ hE _ _ => obtain ⟨l', h1, h2, _⟩ := rdN_sound (P := P) m hE hl; exact ⟨l'.toArray, h1, by simpa using h2⟩
  | sl0 _ _ _ a hq p hE hz =>
   have hl0 : l = [] := by
    unfold H.rdN at hl
    split at hl
    ·split at hl
     ·cases hl; simp
     ·cases hl
    ·cases hl
   subst hl0
   refine ⟨#[], ?_, .nil⟩
   simp [Builtin.firstCells, loadCells, loadCellsFrom]
theorem growBy_le : ∀ (r c nl : Nat), 256 ≤ c → Builtin.growBy nl r c ≤ c * 2 ^ r
 | 0, c, nl, h => by simp [Builtin.growBy]
 | r + 1, c, nl, h => by
  simp only [Builtin.growBy]
  split
  ·exact Nat.le_mul_of_pos_right _ (Nat.two_pow_pos _)
  ·refine Nat.le_trans (growBy_le r _ nl (by omega)) ?_
   rw [Nat.pow_succ, Nat.mul_comm (2 ^ r) 2, ← Nat.mul_assoc]
   exact Nat.mul_le_mul_right _ (by omega)
theorem nextcap_le {need cap : Nat} (h : cap < need) : Builtin.nextslicecap need cap ≤ 16 * need := by
 unfold Builtin.nextslicecap
 split
 ·omega
 ·split
  ·omega
  ·have := growBy_le 4 cap need (by omega); omega
theorem notInt {tx : TypeDesc} (h : ∀ k, tx ≠ .int k) : (tx matches .int _) = false := by cases tx <;> first | rfl | exact absurd rfl (h _)
theorem append_new {E : Env} {h h' : H} {w0 w : World} (m : MR E h w0 w) {argTypes : Array TypeId} {ty : TypeId} {st el : TypeId} {tx : TypeDesc} {i : TypeInfo} {z0 : V} {sl n b : Nat} {old new : List V} {s' x' : Value} {base : Option Addr} {cap : Nat}
  (h1 : argTypes[0]? = some st) (hu : P.underlying st = some (.slice el)) (h2 : (argTypes[1]?).bind P.underlying = some tx) (htx : ∀ k, tx ≠ .int k) (hi : P.info? el = some i) (hz : zeroT P el = some z0) (hzl : z0.cells.length = i.size)
  (hs' : s' = .slice base sl cap) (hlx : (Builtin.lenOf x').run P w = .ok n w) (hcap : cap < sl + n) (hb0 : 0 < i.bytes) (hs0 : 0 < i.size) (hbytes : i.bytes * (sl + n) ≤ lim)
  {co cn : Array Value} (hold : (Builtin.firstCells i.size sl s').run P { w with drawn := w.drawn + 1 } = .ok co { w with drawn := w.drawn + 1 }) (hnew : (Builtin.firstCells i.size n x').run P { w with drawn := w.drawn + 1 } = .ok cn { w with drawn := w.drawn + 1 })
  (ro : ARs E old co.toList) (rn : ARs E new cn.toList) (lo : old.length = sl * i.size) (ln : new.length = n * i.size) (ao : old.all V.isCell = true) (an : new.all V.isCell = true)
  (hn : h.new (.cells true (old ++ new)) = some (b, h')) :
  ∃ v' w' E', (Builtin.append_ argTypes ty #[s', x']).run P w = .ok v' w' ∧ Ext E h E' h' ∧ MR E' h' w0 w' ∧ AR E' (.sl b 0 (sl + n) (.op i.size)) v' := by
 subst hs'
 obtain ⟨m1, x1, hEb, hget, hlt, hgb, hbn⟩ := ghost_new m hn
 obtain ⟨z', hz', rz⟩ := run_zeroT E hz { w with drawn := w.drawn + 1 }
 let q := Question.appendCap (sl + n) cap el
 let nc : Nat := q.cut (w.tape w.drawn q)
 have hnc : sl + n ≤ nc := Nat.le_add_right _ _
 obtain ⟨xt, hxt, hut⟩ : ∃ xt, argTypes[1]? = some xt ∧ P.underlying xt = some tx := by
  cases hx : argTypes[1]? with
  | none => rw [hx] at h2; cases h2
  | some xt => rw [hx] at h2; exact ⟨xt, rfl, h2⟩
 let rest := Builtin.zeroCells z'.cells (nc - (sl + n))
 have hzsz : z'.cells.size = i.size := by have := rz.cells.length; simp at this; omega
 have hrest : rest.size = (nc - (sl + n)) * i.size := by simp [rest, Builtin.zeroCells, hzsz]
 have hco : co.size = sl * i.size := by have := ro.length; simp at this; omega
 have hcn : cn.size = n * i.size := by have := rn.length; simp at this; omega
 have htot : (co ++ cn ++ rest).size = nc * i.size := by
  simp only [Array.size_append, hco, hcn, hrest]
  rw [← Nat.add_mul, ← Nat.add_mul]; congr 1; omega
 let cob : Go.Obj := .cells (co ++ cn ++ rest) el (0, 0)
 let p : Place := ⟨w.heap.size, 0, nc * i.size⟩
 have hrun : (Builtin.append_ argTypes ty #[.slice base sl cap, x']).run P w = .ok (.slice (some ⟨w.heap.size, 0, none⟩) (sl + n) nc) { w with heap := w.heap.push cob, drawn := w.drawn + 1 } := by
  have hzeros := notInt htx
  have hnot : ¬ (sl + n ≤ cap) := by omega
  have hmax : ¬ (((sl + n : Nat) : Int) > IntKind.i64.max ∧ (false = true ∨ i.bytes = 0)) := by
   rintro ⟨_, g | g⟩
   ·cases g
   ·omega
  have hneed : sl + n ≤ lim := Nat.le_trans (Nat.le_mul_of_pos_left _ hb0) hbytes
  have hncap : ¬ (Builtin.nextslicecap (sl + n) cap * i.bytes > 2 ^ 48) := by
   have g1 := nextcap_le hcap
   have g2 : Builtin.nextslicecap (sl + n) cap * i.bytes ≤ 16 * (sl + n) * i.bytes := Nat.mul_le_mul_right _ g1
   have g3 : 16 * (sl + n) * i.bytes = 16 * (i.bytes * (sl + n)) := by rw [Nat.mul_assoc, Nat.mul_comm (sl + n)]
   unfold lim at hbytes
   omega
  have hsz : szT P el = some i.size := by simp [szT, hi]
  have hq : q.forced = false := rfl
  simp only [Builtin.append_, h1, hxt]
  simp only [List.getElem?_toArray, List.getElem?_cons_zero, List.getElem?_cons_succ, Sem.run_bind, run_underlying hu, Result.andThen_ok, run_szT hsz, run_underlying hut, Sem.run_pure, hzeros, Bool.false_eq_true, if_false, hlx, if_neg hnot, run_info hi]
  have hmax' : ¬ (((sl + n : Nat) : Int) > IntKind.i64.max ∧ (False ∨ i.bytes = 0)) := by simpa using hmax
  have hdr : ({ w with drawn := w.drawn + 1 } : World) = { w with drawn := w.drawn + 1 } := rfl
  simp only [Sem.run_ite, if_neg hmax', Sem.run_bind, run_info hi, Result.andThen_ok, if_neg hncap, run_choose, show (Question.appendCap (sl + n) cap el).forced = false from rfl, Bool.false_eq_true, if_false, run_askRoom, hold, Bool.not_false, if_true, hnew, hz', newRow, run_newObj, Sem.run_pure]
  rfl
 have hle := upd_le (p := p) hEb
 have e1 : upd E b p b = some p := by unfold upd; rw [if_pos rfl]
 refine ⟨_, _, upd E b p, hrun, ?_, ?_, ?_⟩
 ·refine ⟨x1.le.trans hle, fun k hk => ?_, x1.nxt, x1.ghost⟩
  unfold upd; rw [if_neg (by omega)]
 ·have := place_sound (m1.drawn (w.drawn + 1)) (p := p) hlt hEb hgb cob rfl (fun o ho => by
   rw [hget] at ho; cases ho
   have rr : ARs (upd E b p) (old ++ new) (co ++ cn).toList := by rw [Array.toList_append]; exact (ro.append rn).mono hle
   have hll : (old ++ new).length = (sl + n) * i.size := by simp [lo, ln, Nat.add_mul]
   exact cells_obj (w := { w with drawn := w.drawn + 1 }) rr (by rw [List.all_append, ao, an]; rfl) true el (nc * i.size) (by rw [hll]; exact Nat.mul_le_mul_right _ hnc) _ (by rw [htot]; exact Nat.le_refl _) (fun k hk => by
    rw [Array.getElem?_append_left]
    rw [hll] at hk
    simp only [Array.size_append, hco, hcn]
    rw [← Nat.add_mul]; exact hk) 0 0 (by omega))
  exact this
 ·exact .slo b 0 (sl + n) i.size p nc e1 (by simp [p]) hnc
set_option maxHeartbeats 1000000 in
theorem append_sound {E : Env} {h h' : H} {w0 w : World} (m : MR E h w0 w) {argTypes : Array TypeId} {ty : TypeId} {s x v : V} {s' x' : Value} (ha : aappend P h argTypes s x = some (v, h')) (rs : AR E s s') (rx : AR E x x') :
  ∃ v' w' E', (Builtin.append_ argTypes ty #[s', x']).run P w = .ok v' w' ∧ Ext E h E' h' ∧ MR E' h' w0 w' ∧ AR E' v v' := by
 unfold aappend at ha
 split at ha
 ·rename_i el tx hu0 h2
  obtain ⟨st, h1, hu⟩ : ∃ st, argTypes[0]? = some st ∧ P.underlying st = some (.slice el) := by
   cases hx : argTypes[0]? with
   | none => rw [hx] at hu0; cases hu0
   | some st => rw [hx] at hu0; exact ⟨st, rfl, hu0⟩
  obtain ⟨xt, hxt, hut⟩ : ∃ xt, argTypes[1]? = some xt ∧ P.underlying xt = some tx := by
   cases hx : argTypes[1]? with
   | none => rw [hx] at h2; cases h2
   | some xt => rw [hx] at h2; exact ⟨xt, rfl, h2⟩
  split at ha
  ·cases ha
  ·rename_i htx
   have htx' : ∀ k, tx ≠ .int k := fun k e => htx k e
   have hzeros := notInt htx'
   split at ha
   ·rename_i i sl n z0 hi hsl hn hz
    have hsz : szT P el = some i.size := by simp [szT, hi]
    split at ha
    ·cases ha
    ·rename_i new hnew
     split at ha
     ·rename_i hc
      obtain ⟨c1, c2, c3, c4, c5, hnl⟩ := hc
      have hlx := lenV_sound (P := P) hn rx w
      have md := m.drawn (w.drawn + 1)
      obtain ⟨cn, hcn, rn⟩ := cellsOf_sound (P := P) m hnew hn rx
      obtain ⟨cn', hcn', rn'⟩ := cellsOf_sound (P := P) md hnew hn rx
      have stay : ∀ (base : Option Addr) (cap : Nat) (w' : World), s' = .slice base sl cap → sl + n ≤ cap → (match base with | some a => (storeCells (a.add (sl * i.size)) cn.toList).run P w = .ok () w' | none => w' = w) →
        (Builtin.append_ argTypes ty #[s', x']).run P w = .ok (.slice base (sl + n) cap) w' := by
       intro base cap w' e hle hst
       subst e
       simp only [Builtin.append_, h1, hxt]
       simp only [List.getElem?_toArray, List.getElem?_cons_zero, List.getElem?_cons_succ, Sem.run_bind, run_underlying hu, Result.andThen_ok, run_szT hsz, run_underlying hut, Sem.run_pure, hzeros, Bool.false_eq_true, if_false, hlx, if_pos hle, Bool.not_false, if_true, hcn]
       cases base with
       | none => simp at hst; subst hst; rfl
       | some a => simp only [Sem.run_bind, hst, Result.andThen_ok]; rfl
      have zero : n = 0 → cn.toList = [] := by
       rintro rfl
       have := rn.length
       rw [hnl, Nat.zero_mul] at this
       exact List.eq_nil_of_length_eq_zero this.symm
      unfold aappend2 at ha
      split at ha
      ·cases rs
       have e0 : sl = 0 := by simpa [lenV] using hsl.symm
       subst e0
       split at ha
       ·cases ha
        exact ⟨_, w, E, stay none 0 w rfl (Nat.le_refl _) rfl, Ext.refl E h, m, .nils⟩
       ·rename_i hn0
        obtain ⟨b, hnew', rfl⟩ := map_new (f := fun b => V.sl b 0 n (.op i.size)) ha
        have := append_new (P := P) m (argTypes := argTypes) (ty := ty) (s' := .slice none 0 0) (x' := x') (sl := 0) (n := n) (old := []) (new := new) (cap := 0) h1 hu h2 htx' hi hz c5 rfl hlx (by have := Nat.pos_of_ne_zero hn0; omega) c2 c1 c3 (co := #[]) (cn := cn') rfl hcn' .nil rn' (by simp) hnl rfl c4 hnew'
        simpa using this
      ·rename_i b o len cap
       have e0 : sl = len := by simpa [lenV] using hsl.symm
       subst e0
       split at ha
       ·cases ha
        have := zero rfl
        cases rs with
        | sl _ _ _ p c hE hnc =>
         exact ⟨_, w, E, stay _ _ w rfl hnc (by rw [this]; rfl), Ext.refl E h, m, .sl _ _ _ p c hE hnc⟩
        | slo _ _ _ z p c hE hext hnc =>
         exact ⟨_, w, E, stay _ _ w rfl hnc (by rw [this]; rfl), Ext.refl E h, m, .slo _ _ _ z p c hE hext hnc⟩
        | sl0 _ _ _ a hq p hE hzz =>
         exact ⟨_, w, E, stay _ _ w rfl (Nat.le_refl _) (by rw [this]; rfl), Ext.refl E h, m, .sl0 _ _ _ a hq p hE hzz⟩
       ·rename_i hn0
        have hn0' : 0 < n := Nat.pos_of_ne_zero hn0
        split at ha
        ·rename_i opn cs hb
         split at ha
         ·rename_i hfit
          simp only [Bool.and_eq_true] at hfit
          obtain ⟨hf1, hf2⟩ := hfit
          have hf1' := Nat.le_of_ble_eq_true hf1
          cases hw : h.wrN b (o + sl * i.size) new with
          | none => rw [hw] at ha; cases ha
          | some h2' =>
           rw [hw] at ha; cases ha
           have go : ∀ (p : Place) (c : Nat), E b = some p → s' = .slice (some ⟨p.blk, p.off + o, none⟩) sl c → sl + n ≤ c → (∀ E', E' b = some p → AR E' (.sl b o (sl + n) cap) (.slice (some ⟨p.blk, p.off + o, none⟩) (sl + n) c)) →
             ∃ v' w' E', (Builtin.append_ argTypes ty #[s', x']).run P w = .ok v' w' ∧ Ext E h E' h' ∧ MR E' h' w0 w' ∧ AR E' (.sl b o (sl + n) cap) v' := by
            intro p c hE e hle hr
            obtain ⟨q1, q2, q3⟩ := wrN_sound (P := P) m hw hE rn
            refine ⟨_, _, E, stay _ c _ e hle ?_, q3, q2, hr E hE⟩
            simp only [add_zero]
            rw [Nat.add_assoc]; exact q1
           cases rs with
           | sl _ _ _ p c hE hnc =>
            have : sl + n ≤ c := Nat.le_of_ble_eq_true hf2
            exact go p c hE rfl this fun E' hE' => .sl _ _ _ p c hE' this
           | slo _ _ _ z p c hE hext hnc =>
            have hzs : z = i.size := Nat.eq_of_beq_eq_true hf2
            subst hzs
            obtain ⟨cc, el', lo', hi', g1, g2, g3, g4, g5⟩ := m.obj b _ p hb hE
            have : sl + n ≤ c := by
             have g6 : (sl + n) * i.size ≤ c * i.size := by omega
             exact Nat.le_of_mul_le_mul_right g6 c1
            exact go p c hE rfl this fun E' hE' => .slo _ _ _ _ p c hE' hext this
           | sl0 _ _ _ a hq p hE hzz =>
            exfalso
            cases cap with
            | ex k => have := hq k rfl; subst this; have := Nat.le_of_ble_eq_true hf2; omega
            | op z =>
             obtain ⟨cc, el', lo', hi', g1, g2, g3, g4, g5⟩ := m.obj b _ p hb hE
             have := hzz z rfl
             have : 0 < (0 + n) * i.size := Nat.mul_pos (by omega) c1
             omega
         ·rename_i hfit
          split at ha
          ·rename_i old c hold
           split at ha
           ·rename_i hlt
            obtain ⟨b', hnew', rfl⟩ := map_new (f := fun b => V.sl b 0 (sl + n) (.op i.size)) ha
            have go : ∀ (base : Option Addr) (cap' : Nat) (co : Array Value), s' = .slice base sl cap' → cap' < sl + n → (Builtin.firstCells i.size sl s').run P { w with drawn := w.drawn + 1 } = .ok co { w with drawn := w.drawn + 1 } → ARs E old co.toList → old.length = sl * i.size → old.all V.isCell = true →
              ∃ v' w' E', (Builtin.append_ argTypes ty #[s', x']).run P w = .ok v' w' ∧ Ext E h E' h' ∧ MR E' h' w0 w' ∧ AR E' (.sl b' 0 (sl + n) (.op i.size)) v' := by
             intro base cap' co e hl hco ro lo ao
             exact append_new (P := P) m h1 hu h2 htx' hi hz c5 e hlx hl c2 c1 c3 hco hcn' ro rn' lo hnl ao c4 hnew'
            cases rs with
            | sl _ _ _ p _ hE hnc =>
             obtain ⟨l', k1, k2, k3, k4, k5⟩ := rdN_sound (P := P) md hE hold
             exact go _ _ l'.toArray rfl hlt k1 (by simpa using k2) k3 k4
            | sl0 _ _ _ a hq p hE hzz =>
             have e0 : old = [] := by
              obtain ⟨l', k1, k2, k3, k4, k5⟩ := rdN_sound (P := P) md hE hold
              exact List.eq_nil_of_length_eq_zero (by rw [k3]; simp)
             subst e0
             exact go _ _ #[] rfl (by omega) (by simp [Builtin.firstCells, loadCells, loadCellsFrom]) .nil (by simp) rfl
           ·cases ha
          ·rename_i old z hold
           split at ha
           ·rename_i hzg
            obtain ⟨rfl, hgb⟩ := hzg
            obtain ⟨b', hnew', rfl⟩ := map_new (f := fun b => V.sl b 0 (sl + n) (.op i.size)) ha
            have go : ∀ (p : Place) (base : Option Addr) (cap' : Nat) (co : Array Value), E b = some p → s' = .slice base sl cap' → cap' < sl + n → (Builtin.firstCells i.size sl s').run P { w with drawn := w.drawn + 1 } = .ok co { w with drawn := w.drawn + 1 } → ARs E old co.toList → old.length = sl * i.size → old.all V.isCell = true →
              ∃ v' w' E', (Builtin.append_ argTypes ty #[s', x']).run P w = .ok v' w' ∧ Ext E h E' h' ∧ MR E' h' w0 w' ∧ AR E' (.sl b' 0 (sl + n) (.op i.size)) v' := by
             intro p base cap' co hE e hl hco ro lo ao
             obtain ⟨mk, xk⟩ := kill_sound m hE
             obtain ⟨v', w', E', j1, j2, j3, j4⟩ := append_new (P := P) mk h1 hu h2 htx' hi hz c5 e hlx hl c2 c1 c3 hco hcn' ro rn' lo hnl ao c4 hnew'
             exact ⟨v', w', E', j1, xk.trans j2, j3, j4⟩
            cases rs with
            | slo _ _ _ _ p c hE hext hnc =>
             obtain ⟨l', k1, k2, k3, k4, k5⟩ := rdN_sound (P := P) md hE hold
             by_cases hle : sl + n ≤ c
             ·obtain ⟨ca, el', lo', hi', g1, g2, g3, g4, g5⟩ := m.obj b _ p hb hE
              have hmul : (sl + n) * i.size ≤ c * i.size := Nat.mul_le_mul_right _ hle
              rw [Nat.add_mul] at hmul
              have hcl : cn.toList.length = n * i.size := by rw [← rn.length, hnl]
              have hin : ∀ j, j < cn.toList.length → p.off + (o + sl * i.size) + j < ca.size := by intro j hj; omega
              have hone : ∀ v ∈ cn.toList, v.oneCell' = true := by
               intro v hmem
               obtain ⟨k, hk⟩ := List.mem_iff_getElem?.1 hmem
               have hklt : k < new.length := by rw [rn.length]; exact (List.getElem?_eq_some_iff.1 hk).1
               obtain ⟨v', hv', ha⟩ := rn.get k new[k] (by simp)
               rw [hk] at hv'; cases hv'
               obtain ⟨n1, n2⟩ := ha.isCell ((List.all_eq_true.1 c4) new[k] (List.getElem_mem _))
               cases v <;> first | rfl | exact absurd rfl (n1 _) | exact absurd rfl (n2 _)
              have hst := run_storeCells_cells (P := P) p.blk (p.off + (o + sl * i.size)) cn.toList 0 w
               (fun j hj => by rw [cell_of g1]; have := hin j hj; simp; omega)
               (fun j hj => frozen_of g1 g2 _ (by have := hin j hj; omega)) hone
              rw [Nat.add_zero] at hst
              obtain ⟨mk, xk⟩ := kill_sound m hE
              obtain ⟨m1, x1, hEb', hget', hlt', hgb', hbn'⟩ := ghost_new mk hnew'
              obtain ⟨r1, r2, r3, r4⟩ := setCells_rest p.blk cn.toList w (p.off + (o + sl * i.size))
              let p' : Place := ⟨p.blk, p.off + o, p.ext - o⟩
              have hle' := upd_le (p := p') hEb'
              have e1 : upd E b' p' b' = some p' := by unfold upd; rw [if_pos rfl]
              have oldw : ∀ j v', l'[j]? = some v' → ca[p.off + o + j]? = some v' := by
               intro j v' hj
               have := k5 j v' hj
               rwa [cell_of (w := { w with drawn := w.drawn + 1 }) g1] at this
              have mm := re_place m1 (p := p') hlt' hEb' hgb' (w1 := w.setCells p.blk (p.off + (o + sl * i.size)) cn.toList) (m.lt b p hE) (m.own b p hgb hE)
               (fun k ob q hk hq => by
                by_cases ek : k = b'
                ·subst ek; rw [hEb'] at hq; cases hq
                ·have hk1 : (h.kill b).get k = some ob := by
                  have := MR.env_of mk hq
                  have e9 : h'.get k = (h.kill b).get k := by
                   unfold H.new at hnew'
                   split at hnew'
                   ·cases hnew'
                   ·cases hnew'
                    unfold H.get
                    rw [T.get_set _ _ _ _ _ (fu_lim (by have := m1.lim; exact Nat.lt_of_lt_of_le (Nat.lt_succ_self _) this)), if_neg ek]
                  rw [← e9]; exact hk
                 rw [H.get_kill] at hk1
                 split at hk1
                 ·cases hk1
                 ·rename_i ekb
                  exact m.apart k b ob _ q p ekb hk1 hb hq hE)
               (fun k hk => setCells_other _ _ _ _ _ hk) r1 r2 r3 r4
               (fun ob hob => by
                rw [hget'] at hob; cases hob
                refine ⟨writeAt ca (p.off + (o + sl * i.size)) cn.toList, el', lo', hi', setCells_heap _ _ _ _ _ _ _ g1, fun k hk => g2 k (by rwa [writeAt_size] at hk), by rw [writeAt_size]; simp [p']; omega, by simp [p', k3, hnl]; omega, fun k v hv => ?_⟩
                by_cases hk : k < old.length
                ·rw [List.getElem?_append_left hk] at hv
                 obtain ⟨v', y1, y2⟩ := k2.get k v hv
                 refine ⟨List.all_eq_true.1 k4 v (List.mem_of_getElem? hv), v', ?_, y2.mono hle'⟩
                 rw [writeAt_out _ _ _ _ (by simp [p']; omega)]
                 exact oldw k v' y1
                ·rw [List.getElem?_append_right (by omega)] at hv
                 obtain ⟨v', y1, y2⟩ := rn.get (k - old.length) v hv
                 refine ⟨List.all_eq_true.1 c4 v (List.mem_of_getElem? hv), v', ?_, y2.mono hle'⟩
                 have hkl : k - old.length < cn.toList.length := (List.getElem?_eq_some_iff.1 y1).1
                 have := writeAt_in cn.toList ca (p.off + (o + sl * i.size)) (k - old.length) hkl (hin _ hkl)
                 rw [show p.off + (o + sl * i.size) + (k - old.length) = p'.off + k by simp [p']; omega] at this
                 rw [this, y1])
              refine ⟨_, _, upd E b' p', stay _ c _ rfl hle (by simp only [add_zero]; rw [Nat.add_assoc]; exact hst), ?_, mm, ?_⟩
              ·refine xk.trans ⟨x1.le.trans hle', fun k hk => ?_, x1.nxt, x1.ghost⟩
               unfold upd; rw [if_neg (by omega)]
              ·have := AR.slo (E := upd E b' p') b' 0 (sl + n) i.size p' c e1 (by simp [p']; omega) hle
               simpa [p'] using this
             ·exact go p _ _ l'.toArray hE rfl (by omega) k1 (by simpa using k2) k3 k4
            | sl0 _ _ _ a hq p hE hzz =>
             have e0 : old = [] := by
              obtain ⟨l', k1, k2, k3, k4, k5⟩ := rdN_sound (P := P) md hE hold
              exact List.eq_nil_of_length_eq_zero (by rw [k3]; simp)
             subst e0
             exact go p _ _ #[] hE rfl (by omega) (by simp [Builtin.firstCells, loadCells, loadCellsFrom]) .nil (by simp) rfl
           ·cases ha
          ·cases ha
        ·cases ha
      ·cases ha
     ·cases ha
   ·cases ha
 ·cases ha
end
end Go.AM
end
section
/- The abstract machine: maps that are written, rows that are cleared. -/
set_option linter.unusedVariables false
set_option linter.unusedSimpArgs false
namespace Go.AM
noncomputable section
open Go.RowKit
variable {P : Program}
theorem getObj_map {w : World} {B : Nat} {ents : Array MapEntry} {clock : Nat} (h : w.heap[B]? = some (.map ents clock)) : (getObj B).run P w = .ok (.map ents clock) w := by
 simp [getObj, Sem.run, h]
theorem setObj_map {w : World} {B : Nat} {ents : Array MapEntry} {clock : Nat} (h : w.heap[B]? = some (.map ents clock)) (o : Go.Obj) : (setObj B o).run P w = .ok () { w with heap := w.heap.setIfInBounds B o } := by
 simp [setObj, Sem.run, h]
theorem map_put {E : Env} {h : H} {w0 w : World} (m : MR E h w0 w) {b : Nat} {es es' : List (V × V)} {p : Place} {ents ents' : Array MapEntry} {clock clock' : Nat} (hb : h.get b = some (.map es)) (hE : E b = some p)
  (hw : w.heap[p.blk]? = some (.map ents clock)) (hr : All₂ (EntR E) es' ents'.toList) :
  MR E (h.put b (.map es')) w0 { w with heap := w.heap.setIfInBounds p.blk (.map ents' clock') } ∧ Ext E h E (h.put b (.map es')) := by
 have hlt : p.blk < w.heap.size := m.lt b p hE
 have hg : glim ≤ b := by
  rcases Nat.lt_or_ge b glim with g | g
  ·obtain ⟨op, cs, e⟩ := m.glb b _ g hb; cases e
  ·exact g
 refine put_sound m hb hE hg (fun k hk => ?_) (by simp) rfl rfl rfl ⟨ents', clock', ?_, hr⟩
 ·rw [Array.getElem?_setIfInBounds, if_neg (fun e => hk e.symm)]
 ·simp [hlt]
theorem sameBits_of {E : Env} {k k2 : V} {k' k2' : Value} (h : keyEq k k2 = some true) (r : AR E k k') (r2 : AR E k2 k2') : Instr.sameBits 10000 k2' k' = true := by
 cases k <;> cases k2 <;> simp [keyEq] at h
 ·cases r; cases r2; simp [Instr.sameBits, h]
 ·obtain ⟨rfl, rfl⟩ := h; cases r; cases r2; simp [Instr.sameBits]
 ·rename_i s s2
  obtain rfl := (seq_iff s s2).1 h
  cases r with | str _ x e => cases r2 with | str _ y e2 =>
  have : y = x := by
   have : y.data.toList.map UInt8.toNat = x.data.toList.map UInt8.toNat := by rw [e, e2]
   have h2 := (List.map_inj_right (fun a b h => UInt8.toNat_inj.1 h)).1 this
   exact ByteArray.ext (Array.toList_inj.1 h2)
  subst this
  simp only [Instr.sameBits]
  rw [beq_toListBytes]; simp
theorem upd_find {E : Env} {k v : V} {k' v' : Value} {d : TypeDesc} (hf : keyFits d k = true) (rk : AR E k k') (rv : AR E v v') {es : List (V × V)} {ents : List MapEntry} (rp : All₂ (EntR E) es ents) : ∀ {es' : List (V × V)} (i : Nat), updV k v es = some es' →
  (Instr.findNow d k' ents i = some none ∧ ∀ born, All₂ (EntR E) es' (ents ++ [{ key := k', val := v', born }])) ∨
  ∃ j u, Instr.findNow d k' ents i = some (some (i + j, u)) ∧ (∃ e, ents[j]? = some e ∧ Instr.sameBits 10000 e.key k' = true) ∧ All₂ (EntR E) es' (ents.modify j fun e => { e with key := k', val := v' }) := by
 induction rp with
 | nil => intro es' i h; simp [updV] at h; subst h; exact .inl ⟨rfl, fun born => .cons ⟨rk, rv⟩ .nil⟩
 | @cons e m es ents hr t ih =>
  intro es' i h
  simp only [updV] at h
  split at h
  ·rename_i hq
   cases h
   have := keyEq_sound' hf hq rk hr.1
   exact .inr ⟨0, m.val, by simp [Instr.findNow, this], ⟨m, rfl, sameBits_of hq rk hr.1⟩, by simpa [List.modify] using All₂.cons ⟨rk, rv⟩ t⟩
  ·rename_i hq
   have := keyEq_sound' hf hq rk hr.1
   cases hu : updV k v es with
   | none => rw [hu] at h; cases h
   | some l =>
    rw [hu] at h; cases h
    rcases ih (i + 1) hu with ⟨h1, h2⟩ | ⟨j, u, h1, ⟨e', h2, h3⟩, h4⟩
    ·exact .inl ⟨by simp [Instr.findNow, this, h1], fun born => .cons hr (h2 born)⟩
    ·refine .inr ⟨j + 1, u, by simp [Instr.findNow, this, h1]; omega, ⟨e', by simpa using h2, h3⟩, ?_⟩
     simpa [List.modify] using All₂.cons hr h4
  ·cases h
theorem mapUpdate_sound {E : Env} {h : H} {w0 w : World} (m : MR E h w0 w) {t kt et : TypeId} {b : Nat} {k v : V} {m' k' v' : Value} {es es' : List (V × V)} (hu : P.underlying t = some (.map kt et)) (hk : keyOk P kt k = true) (hb : h.get b = some (.map es)) (hes : updV k v es = some es')
  (rm : AR E (.map b) m') (rk : AR E k k') (rv : AR E v v') :
  ∃ w', (Instr.mapUpdate t m' k' v').run P w = .ok () w' ∧ MR E (h.put b (.map es')) w0 w' ∧ Ext E h E (h.put b (.map es')) := by
 obtain ⟨d, hd, hf⟩ := keyOk_fits hk
 cases rm with
 | map _ p hE =>
  obtain ⟨ents, clock, h1, h2⟩ := m.obj b _ p hb hE
  have hck := run_checkKey hd hf rk w false
  rcases upd_find hf rk rv h2 0 hes with ⟨g1, g2⟩ | ⟨j, u, g1, ⟨e, g2, g3⟩, g4⟩
  ·have hfk : (Instr.findKey kt k' ents.toList).run P w = .ok none w := by simp [Instr.findKey, run_underlying hd, g1]
   obtain ⟨q1, q2⟩ := map_put m (ents' := ents.push { key := k', val := v', born := clock }) (clock' := clock + 1) hb hE h1 (by simpa using g2 clock)
   refine ⟨_, ?_, q1, q2⟩
   simp [Instr.mapUpdate, run_underlying hu, getObj_map h1, hck, hfk, setObj_map h1]
  ·have hfk : (Instr.findKey kt k' ents.toList).run P w = .ok (some (0 + j, u)) w := by simp [Instr.findKey, run_underlying hd, g1]
   rw [Nat.zero_add] at hfk
   have he : ents[j]? = some e := by simpa using g2
   obtain ⟨q1, q2⟩ := map_put m (ents' := ents.modify j fun e => { e with key := k', val := v' }) (clock' := clock) hb hE h1 (by simpa using g4)
   refine ⟨_, ?_, q1, q2⟩
   simp [Instr.mapUpdate, run_underlying hu, getObj_map h1, hck, hfk, he, Instr.keyThatStays, g3, setObj_map h1]
theorem del_find {E : Env} {k : V} {k' : Value} {d : TypeDesc} (hf : keyFits d k = true) (rk : AR E k k') {es : List (V × V)} {ents : List MapEntry} (rp : All₂ (EntR E) es ents) : ∀ {es' : List (V × V)} (i : Nat), delV k es = some es' →
  (Instr.findNow d k' ents i = some none ∧ All₂ (EntR E) es' ents) ∨
  ∃ j u, Instr.findNow d k' ents i = some (some (i + j, u)) ∧ All₂ (EntR E) es' (ents.eraseIdx j) := by
 induction rp with
 | nil => intro es' i h; simp [delV] at h; subst h; exact .inl ⟨rfl, .nil⟩
 | @cons e m es ents hr t ih =>
  intro es' i h
  simp only [delV] at h
  split at h
  ·rename_i hq
   cases h
   have := keyEq_sound' hf hq rk hr.1
   exact .inr ⟨0, m.val, by simp [Instr.findNow, this], by simpa using t⟩
  ·rename_i hq
   have := keyEq_sound' hf hq rk hr.1
   cases hu : delV k es with
   | none => rw [hu] at h; cases h
   | some l =>
    rw [hu] at h; cases h
    rcases ih (i + 1) hu with ⟨h1, h2⟩ | ⟨j, u, h1, h4⟩
    ·exact .inl ⟨by simp [Instr.findNow, this, h1], .cons hr h2⟩
    ·refine .inr ⟨j + 1, u, by simp [Instr.findNow, this, h1]; omega, ?_⟩
     simpa using All₂.cons hr h4
  ·cases h
theorem delete_sound {E : Env} {h : H} {w0 w : World} (m : MR E h w0 w) {argTypes : Array TypeId} {ty kt et : TypeId} {b : Nat} {k : V} {m' k' : Value} {es es' : List (V × V)} (hu : (argTypes[0]?).bind P.underlying = some (.map kt et)) (hk : keyOk P kt k = true) (hb : h.get b = some (.map es)) (hes : delV k es = some es')
  (rm : AR E (.map b) m') (rk : AR E k k') :
  ∃ w', (Builtin.delete_ argTypes ty #[m', k']).run P w = .ok undef w' ∧ MR E (h.put b (.map es')) w0 w' ∧ Ext E h E (h.put b (.map es')) := by
 obtain ⟨d, hd, hf⟩ := keyOk_fits hk
 obtain ⟨t, ht, hu'⟩ : ∃ t, argTypes[0]? = some t ∧ P.underlying t = some (.map kt et) := by
  cases hx : argTypes[0]? with
  | none => rw [hx] at hu; cases hu
  | some t => rw [hx] at hu; exact ⟨t, rfl, hu⟩
 cases rm with
 | map _ p hE =>
  obtain ⟨ents, clock, h1, h2⟩ := m.obj b _ p hb hE
  have hck := run_checkKey hd hf rk w ents.isEmpty
  rcases del_find hf rk h2 0 hes with ⟨g1, g2⟩ | ⟨j, u, g1, g4⟩
  ·have hfk : (Instr.findKey kt k' ents.toList).run P w = .ok none w := by simp [Instr.findKey, run_underlying hd, g1]
   obtain ⟨q1, q2⟩ := map_put m (ents' := ents) (clock' := clock) hb hE h1 g2
   refine ⟨_, ?_, q1, q2⟩
   simp [Builtin.delete_, ht, run_underlying hu', getObj_map h1, hck, hfk, setObj_map h1]; rfl
  ·have hfk : (Instr.findKey kt k' ents.toList).run P w = .ok (some (0 + j, u)) w := by simp [Instr.findKey, run_underlying hd, g1]
   rw [Nat.zero_add] at hfk
   obtain ⟨q1, q2⟩ := map_put m (ents' := ents.eraseIdxIfInBounds j) (clock' := clock) hb hE h1 (by simpa using g4)
   refine ⟨_, ?_, q1, q2⟩
   simp [Builtin.delete_, ht, run_underlying hu', getObj_map h1, hck, hfk, setObj_map h1]; rfl
theorem clear_sound {E : Env} {h h' : H} {w0 w : World} (m : MR E h w0 w) {argTypes : Array TypeId} {ty el : TypeId} {b off n : Nat} {c : Cp} {z : V} {x' : Value} (hu : (argTypes[0]?).bind P.underlying = some (.slice el)) (hn : n ≠ 0) (hz : zeroT P el = some z)
  (hw : h.wrN b off (zeros z.cells n) = some h') (rx : AR E (.sl b off n c) x') :
  ∃ w', (Builtin.clear_ argTypes ty #[x']).run P w = .ok undef w' ∧ MR E h' w0 w' ∧ Ext E h E h' := by
 obtain ⟨t, ht, hu'⟩ : ∃ t, argTypes[0]? = some t ∧ P.underlying t = some (.slice el) := by
  cases hx : argTypes[0]? with
  | none => rw [hx] at hu; cases hu
  | some t => rw [hx] at hu; exact ⟨t, rfl, hu⟩
 obtain ⟨z', hz', rz⟩ := run_zeroT E hz w
 have rzz := zeros_sound rz.cells n z.cells.length rfl
 have hzl : z'.cells.size = z.cells.length := by have := rz.cells.length; simp at this; omega
 obtain ⟨k, rfl⟩ : ∃ k, n = k + 1 := ⟨n - 1, by omega⟩
 have go : ∀ (p : Place) (cc : Nat), E b = some p → ∃ w', (Builtin.clear_ argTypes ty #[.slice (some ⟨p.blk, p.off + off, none⟩) (k + 1) cc]).run P w = .ok undef w' ∧ MR E h' w0 w' ∧ Ext E h E h' := by
  intro p cc hE
  obtain ⟨q1, q2, q3⟩ := wrN_sound (P := P) m hw hE rzz
  refine ⟨_, ?_, q2, q3⟩
  rw [← hzl] at q1
  simp only [Builtin.clear_, ht]
  simp only [List.getElem?_toArray, List.getElem?_cons_zero, Sem.run_bind, run_underlying hu', Result.andThen_ok, hz', Builtin.zeroCells, q1, Sem.run_pure]
  rw [hzl]; rfl
 cases rx with
 | sl _ _ _ p _ hE _ => exact go p _ hE
 | slo _ _ _ z p _ hE _ _ => exact go p _ hE
theorem clear_none {argTypes : Array TypeId} {ty el : TypeId} {E : Env} {x : V} {x' : Value} (hu : (argTypes[0]?).bind P.underlying = some (.slice el)) (hx : x = .nils ∨ ∃ b o c, x = .sl b o 0 c) (rx : AR E x x') (w : World) :
  (Builtin.clear_ argTypes ty #[x']).run P w = .ok undef w := by
 obtain ⟨t, ht, hu'⟩ : ∃ t, argTypes[0]? = some t ∧ P.underlying t = some (.slice el) := by
  cases hx : argTypes[0]? with
  | none => rw [hx] at hu; cases hu
  | some t => rw [hx] at hu; exact ⟨t, rfl, hu⟩
 rcases hx with rfl | ⟨b, o, c, rfl⟩
 ·cases rx; simp [Builtin.clear_, ht, run_underlying hu']; rfl
 ·cases rx <;> simp [Builtin.clear_, ht, run_underlying hu'] <;> rfl
end
end Go.AM
end
