/- The abstract machine: operations that change nothing. -/
import Derived.Test.YtaednlggmjlaaaaGreatDoorAmOps1
set_option linter.unusedVariables false
set_option linter.unusedSimpArgs false
namespace Go.AM
noncomputable section
open Go.RowKit
variable {P : Program}

theorem binOp_eql {E : Env} {t : TypeId} {x y : V} {x' y' : Value} (hx : AR E x x') (hy : AR E y y') (h1 : ∀ k a k' b, x = .int k a → y = .int k' b → False) (h2 : ∀ a b, x = .str a → y = .str b → False) :
    binOp .eql t x' y' = (do pure (.bool (← Op.equal t x' y'))) ∧ binOp .neq t x' y' = (do pure (.bool (!(← Op.equal t x' y')))) := by
  cases hx with
  | int k a => cases hy with
    | int k' b => exact (h1 _ _ _ _ rfl rfl).elim
    | _ => exact ⟨rfl, rfl⟩
  | str s x' e => cases hy with
    | str s' y' e' => exact (h2 _ _ rfl rfl).elim
    | _ => exact ⟨rfl, rfl⟩
  | _ => exact ⟨rfl, rfl⟩

theorem abin_sound {E : Env} {op : BinOp} {t : TypeId} {x y v : V} {x' y' : Value} (h : abin P op t x y = some v) (hx : AR E x x') (hy : AR E y y') (w : World) :
    ∃ v', (binOp op t x' y').run P w = .ok v' w ∧ AR E v v' := by
  unfold abin at h
  split at h
  · rename_i k a k2 b
    cases hx; cases hy
    split at h
    · cases h
    · rename_i hb
      cases h
      exact ⟨_, by simp [binOp, Op.shift, hb], .int _ _⟩
  · rename_i k a k2 b
    cases hx; cases hy
    split at h
    · cases h
    · rename_i hb
      cases h
      exact ⟨_, by simp [binOp, Op.shift, hb], .int _ _⟩
  · rename_i k a k' b h1 h2
    cases hx; cases hy
    split at h
    · rename_i e
      subst e
      cases op <;> simp only [Option.some.injEq, reduceCtorEq] at h
      case quo =>
        split at h
        · cases h
        · rename_i hb; cases h; exact ⟨_, by simp [binOp, Op.intDiv, hb], .int _ _⟩
      case rem =>
        split at h
        · cases h
        · rename_i hb; cases h; exact ⟨_, by simp [binOp, Op.intDiv, hb], .int _ _⟩
      all_goals (subst h; refine ⟨_, (by simp only [binOp, ne_eq, not_true_eq_false, if_false]; rfl), ?_⟩; first | exact .int _ _ | exact .bool _)
    · cases h
  · rename_i a b
    cases hx with
    | str s x' e => cases hy with
      | str s2 y' e2 =>
        have he : (x'.toList == y'.toList) = seq a b := str_inj e e2
        have hl : Op.bytesLess x'.toList y'.toList = slt a b := by rw [ByteArray.toList_eq, ByteArray.toList_eq, str_lt, e, e2]
        have hsx : x'.size = a.length := by rw [← e, List.length_map, Array.length_toList]; rfl
        have hsy : y'.size = b.length := by rw [← e2, List.length_map, Array.length_toList]; rfl
        cases op <;> simp only [Option.some.injEq, reduceCtorEq] at h
        case add =>
          split at h
          · rename_i hlim
            cases h
            refine ⟨.string (x' ++ y'), ?_, .str _ _ ?_⟩
            · have : ¬ ((x'.size + y'.size : Nat) : Int) > IntKind.i64.max := by
                unfold lim at hlim
                simp [IntKind.max, IntKind.signed, IntKind.bits]; omega
              simp only [binOp, Op.stringOp]
              rw [if_neg this]; rfl
            · simp [← e, ← e2]
          · cases h
        all_goals (subst h; exact ⟨_, by simp [binOp, Op.stringOp, he, hl] <;> rfl, .bool _⟩)
  · rename_i h1 h2
    cases hv : veq P 40 t x y with
    | none => rw [hv] at h; cases h
    | some b =>
      rw [hv] at h; cases h
      have := (veq_sound E 40).1 Op.maxDepth t x y b x' y' w (by unfold Op.maxDepth; omega) hv hx hy
      refine ⟨.bool b, ?_, .bool b⟩
      rw [(binOp_eql hx hy (fun k a k' b e1 e2 => by subst e1; subst e2; exact h1 k a k' b rfl rfl) (fun a b e1 e2 => by subst e1; subst e2; exact h2 a b rfl rfl)).1]
      simp [Op.equal, this]
  · rename_i h1 h2
    cases hv : veq P 40 t x y with
    | none => rw [hv] at h; cases h
    | some b =>
      rw [hv] at h; cases h
      have := (veq_sound E 40).1 Op.maxDepth t x y b x' y' w (by unfold Op.maxDepth; omega) hv hx hy
      refine ⟨.bool (!b), ?_, .bool _⟩
      rw [(binOp_eql hx hy (fun k a k' b e1 e2 => by subst e1; subst e2; exact h1 k a k' b rfl rfl) (fun a b e1 e2 => by subst e1; subst e2; exact h2 a b rfl rfl)).2]
      simp [Op.equal, this]
  · cases h

theorem guard_sound {E : Env} {op : BinOp} {t : TypeId} {x y : Operand} {a b : V} {a' b' : Value} (h : guardOk P op t x y a b = true) (ha : AR E a a') (hb : AR E b b') (w : World) :
    (eqGuard op t x y a' b').run P w = .ok () w := by
  by_cases hop : op = .eql ∨ op = .neq
  · rcases hop with rfl | rfl
    all_goals
      cases ha with
      | nili => cases hb with
        | nili =>
          simp only [guardOk] at h
          cases x <;> cases y <;> simp at h <;> simp [eqGuard]
        | _ => rfl
      | agg l cs hl => cases hb with
        | agg l2 cs2 hl2 =>
          simp only [guardOk] at h
          have h' : P.eqGuardType P.depth t = false := by simpa using h
          simp [eqGuard, h']
        | _ => rfl
      | _ => rfl
  · cases op <;> first | exact absurd (Or.inl rfl) hop | exact absurd (Or.inr rfl) hop | rfl

theorem asIdx_sound {E : Env} {v : V} {v' : Value} {n : Nat} (h : asIdx v = some n) (r : AR E v v') : ∃ k, v = .int k n ∧ v' = .int k (n : Int) := by
  cases v <;> simp [asIdx] at h
  rename_i k m
  cases m with
  | ofNat m => simp at h; subst h; cases r; exact ⟨k, rfl, rfl⟩
  | negSucc m => simp at h

/-- an optional operand and its value. -/
inductive OptR (E : Env) : Option V → Option Value → Prop where
  | none : OptR E none none
  | some (v : V) (v' : Value) (h : AR E v v') : OptR E (some v) (some v')

theorem nat?_sound {E : Env} {x : Option V} {x' : Option Value} {d n : Nat} (h : nat? x d = some n) (r : OptR E x x') :
    (x' = none ∧ n = d) ∨ ∃ k, x' = some (.int k (n : Int)) := by
  cases r with
  | none => simp [nat?] at h; exact .inl ⟨rfl, h.symm⟩
  | some v v' hr => obtain ⟨k, _, e⟩ := asIdx_sound h hr; exact .inr ⟨k, by rw [e]⟩

theorem run_sliceBound (w : World) (k : IntKind) (n y : Nat) (c : BoundsCode) (h : n ≤ y) : (Instr.sliceBound (.int k (n : Int)) y c).run P w = .ok n w := by
  have : (0 : Int) ≤ n ∧ (n : Int) ≤ y := by omega
  simp [Instr.sliceBound, asIntOf, this]

theorem run_bounds (w : World) (s : Bool) (len cap l h : Nat) {E : Env} {lo hi : Option V} {lo' hi' : Option Value} (hl : nat? lo 0 = some l) (hh : nat? hi len = some h) (rl : OptR E lo lo') (rh : OptR E hi hi') (h1 : l ≤ h) (h2 : h ≤ cap) :
    (Instr.sliceBounds s len cap lo' hi' none).run P w = .ok (l, h, cap) w := by
  rcases nat?_sound hl rl with ⟨rfl, rfl⟩ | ⟨k, rfl⟩ <;> rcases nat?_sound hh rh with ⟨rfl, rfl⟩ | ⟨k2, rfl⟩ <;>
    simp [Instr.sliceBounds, run_sliceBound, h1, h2]

theorem run_bounds3 (w : World) (len cap l h m : Nat) {E : Env} {lo hi : Option V} {lo' hi' : Option Value} {k : IntKind} (hl : nat? lo 0 = some l) (hh : nat? hi len = some h) (rl : OptR E lo lo') (rh : OptR E hi hi') (hhi : hi ≠ none) (h1 : l ≤ h) (h2 : h ≤ m) (h3 : m ≤ cap) :
    (Instr.sliceBounds true len cap lo' hi' (some (.int k (m : Int)))).run P w = .ok (l, h, m) w := by
  rcases nat?_sound hh rh with ⟨rfl, rfl⟩ | ⟨k2, rfl⟩
  · cases rh; exact absurd rfl hhi
  · rcases nat?_sound hl rl with ⟨rfl, rfl⟩ | ⟨k, rfl⟩ <;>
      simp [Instr.sliceBounds, run_sliceBound, h1, h2, h3]
end
end Go.AM
