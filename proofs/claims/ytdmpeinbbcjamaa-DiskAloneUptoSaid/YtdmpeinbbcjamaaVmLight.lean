/- The machine of values: operations that change nothing are the model's. -/
import Derived.Test.YtdmpeinbbcjamaaVmOps
set_option linter.unusedVariables false
set_option linter.unusedSimpArgs false
namespace Go.VM
open Go.RowKit
variable {P : Program}

/-! ### operands -/
theorem cvs_sound {E : Env} {n : Nat} (ih : ∀ x v, cv n x = some v → AR E v x) : ∀ (l : List Value) (r : List V), l.mapM (cv n) = some r → ARs E r l
  | [], r, h => by
    have : r = [] := by simpa using h.symm
    subst this; exact .nil
  | x :: l, r, h => by
    rw [List.mapM_cons] at h
    cases hx : cv n x with
    | none => rw [hx] at h; simp at h
    | some v =>
      cases hl : l.mapM (cv n) with
      | none => rw [hx, hl] at h; simp at h
      | some vs =>
        rw [hx, hl] at h
        have : r = v :: vs := by simpa using h.symm
        subst this
        exact .cons _ _ _ _ (ih _ _ hx) (cvs_sound ih l vs hl)

theorem cv_sound (E : Env) : ∀ (n : Nat) (x : Value) (v : V), cv n x = some v → AR E v x := by
  intro n
  induction n with
  | zero => intro x v h; simp [cv] at h
  | succ n ih =>
    intro x v h
    cases x with
    | bool b => simp [cv] at h; subst h; exact .bool b
    | int k m => simp [cv] at h; subst h; exact .int k m
    | string s => simp only [cv, Option.some.injEq] at h; subst h; exact .str _ s rfl
    | pointer a => cases a <;> simp [cv] at h; subst h; exact .nilp
    | slice a l c =>
      cases a with
      | some a => simp [cv] at h
      | none =>
        cases l with
        | succ l => simp [cv] at h
        | zero => cases c with
          | succ c => simp [cv] at h
          | zero => simp [cv] at h; subst h; exact .lst0 _ _ _ rfl
    | map r => cases r <;> simp [cv] at h; subst h; exact .nilm
    | nilFunc => simp [cv] at h; subst h; exact .nilf
    | nilIface => simp [cv] at h; subst h; exact .nili
    | iface t x =>
      simp only [cv] at h
      cases hx : cv n x with
      | none => rw [hx] at h; cases h
      | some u => rw [hx] at h; cases h; exact .iface t u x (ih x u hx)
    | agg cs =>
      simp only [cv] at h
      cases hx : cs.toList.mapM (cv n) with
      | none => rw [hx] at h; cases h
      | some u => rw [hx] at h; cases h; exact .agg u cs (cvs_sound ih _ _ hx)
    | tuple cs =>
      simp only [cv] at h
      cases hx : cs.toList.mapM (cv n) with
      | none => rw [hx] at h; cases h
      | some u => rw [hx] at h; cases h; exact .tup u cs (cvs_sound ih _ _ hx)
    | float k b => simp [cv] at h
    | complex k a b => simp [cv] at h
    | chan r => simp [cv] at h
    | func f a c => simp [cv] at h

def GL (E : Env) (gl : List Nat) : Prop := ∀ g, gl.contains g = true → ∃ p, E.ob g = some p ∧ p.blk = g ∧ p.off = 0
theorem GL.mono {E E' : Env} {gl : List Nat} (h : E.le E') (g : GL E gl) : GL E' gl := fun x hx => let ⟨p, a, b⟩ := g x hx; ⟨p, h.ob _ _ a, b⟩

section
variable {E : Env} {L : Nat → Option Place} {gl : List Nat} {nt : Nat} {tm : TM} {tmps : Array Value}
theorem rvt_sound (hg : GL E gl) (r : TR E L nt tm tmps) {x : Operand} {y : RX} {v : TV} (hx : rx x = some y) (h : rvt gl tm y = some v) : TVR E L v (evT tmps x) := by
  cases x with
  | tmp t =>
    cases hx
    obtain ⟨v', h1, h2⟩ := r.2 t v h
    simpa [evT, Array.getD_eq_getD_getElem?, h1] using h2
  | const c =>
    simp only [rx] at hx
    cases hc : cv 6 c with
    | none => rw [hc] at hx; cases hx
    | some u => rw [hc] at hx; cases hx; cases h; exact .v _ _ (cv_sound E 6 c u hc)
  | func f => cases hx; cases h; exact .v _ _ (.fn f [] [] #[] #[] .nil .nil)
  | global g =>
    cases hx
    simp only [rvt] at h
    split at h
    · rename_i hc
      cases h
      obtain ⟨p, hp, rfl, h0⟩ := hg g hc
      have := AR.ptr (E := E) p.blk 0 p hp
      exact .v _ _ (by simpa [evT, h0] using this)
    · cases h

theorem rv_some {y : RX} {v : V} (h : rv gl tm y = some v) : rvt gl tm y = some (.v v) := by
  unfold rv at h
  split at h
  · rename_i u hu; cases h; exact hu
  · cases h

theorem rv_sound (hg : GL E gl) (r : TR E L nt tm tmps) {x : Operand} {y : RX} {v : V} (hx : rx x = some y) (h : rv gl tm y = some v) : AR E v (evT tmps x) := by
  have := rvt_sound hg r hx (rv_some h)
  cases this with | v _ _ h => exact h

theorem rvs_sound (hg : GL E gl) (r : TR E L nt tm tmps) : ∀ {xs : List Operand} {ys : List RX} {vs : List V}, rxs xs = some ys → rvs gl tm ys = some vs → ARs E vs (xs.map (evT tmps))
  | [], ys, vs, hx, h => by simp [rxs] at hx; subst hx; simp [rvs] at h; subst h; exact .nil
  | x :: xs, ys, vs, hx, h => by
    simp only [rxs] at hx
    split at hx
    · rename_i a b h1 h2
      cases hx
      simp only [rvs] at h
      split at h
      · rename_i v l h3 h4
        cases h
        exact .cons _ _ _ _ (rv_sound hg r h1 h3) (rvs_sound hg r h2 h4)
      · cases h
    · cases hx

/-- an optional operand and its value. -/
inductive OptR (E : Env) : Option V → Option Value → Prop where
  | none : OptR E none none
  | some (v : V) (v' : Value) (h : AR E v v') : OptR E (some v) (some v')

theorem rvo_sound (hg : GL E gl) (r : TR E L nt tm tmps) {x : Option Operand} {y : Option RX} {v : Option V} (hx : rxo x = some y) (h : rvo gl tm y = some v) : OptR E v (x.map (evT tmps)) := by
  cases x with
  | none => cases hx; cases h; exact .none
  | some x =>
    simp only [rxo] at hx
    cases h1 : rx x with
    | none => rw [h1] at hx; cases hx
    | some y =>
      rw [h1] at hx; cases hx
      simp only [rvo] at h
      cases h2 : rv gl tm y with
      | none => rw [h2] at h; cases h
      | some u => rw [h2] at h; cases h; exact .some _ _ (rv_sound hg r h1 h2)

inductive PsR (E : Env) : List (Nat × V) → List (Nat × Value) → Prop where
  | nil : PsR E [] []
  | cons (i : Nat) (v : V) (v' : Value) (l : List (Nat × V)) (l' : List (Nat × Value)) (h : AR E v v') (t : PsR E l l') : PsR E ((i, v) :: l) ((i, v') :: l')

theorem rvp_sound (hg : GL E gl) (r : TR E L nt tm tmps) : ∀ {xs : List (Nat × Operand)} {ys : List (Nat × RX)} {vs : List (Nat × V)}, rxp xs = some ys → rvp gl tm ys = some vs → PsR E vs (xs.map fun p => (p.1, evT tmps p.2))
  | [], ys, vs, hx, h => by simp [rxp] at hx; subst hx; simp [rvp] at h; subst h; exact .nil
  | (i, x) :: xs, ys, vs, hx, h => by
    simp only [rxp] at hx
    split at hx
    · rename_i a b h1 h2
      cases hx
      simp only [rvp] at h
      split at h
      · rename_i v l h3 h4
        cases h
        exact .cons _ _ _ _ _ (rv_sound hg r h1 h3) (rvp_sound hg r h2 h4)
      · cases h
    · cases hx
end

/-! ### types -/
theorem run_zeroT (E : Env) {t : TypeId} {z : V} (h : zeroT P t = some z) (w : World) : ∃ z', (zeroValue t).run P w = .ok z' w ∧ AR E z z' := by
  unfold zeroT at h
  cases hi : P.info? t with
  | none => rw [hi] at h; cases h
  | some i =>
    rw [hi] at h
    simp only [Option.bind_some] at h
    cases hz : i.zero with
    | none => rw [hz] at h; cases h
    | some z' =>
      rw [hz] at h
      exact ⟨z', by simp [zeroValue, run_info hi, hz], cv_sound E 4 z' z h⟩

theorem aggN_spec {t : TypeId} {n : Option Nat} (h : aggN P t = some n) : (∃ k, n = some k ∧ isAggT P t = some true ∧ szT P t = some k) ∨ (n = none ∧ isAggT P t = some false) := by
  unfold aggN at h
  split at h
  · rename_i ha
    cases hs : szT P t with
    | none => rw [hs] at h; cases h
    | some k => rw [hs] at h; cases h; exact .inl ⟨k, rfl, ha, rfl⟩
  · rename_i ha; cases h; exact .inr ⟨rfl, ha⟩
  · cases h

theorem partC_sound {E : Env} {t : TypeId} {cs : List V} {cs' : Array Value} {off : Nat} {n : Option Nat} {v : V} (hn : aggN P t = some n) (h : partC cs off n = some v) (r : ARs E cs cs'.toList) (w : World) :
    ∃ v', (part t cs' off).run P w = .ok v' w ∧ AR E v v' := by
  rcases aggN_spec hn with ⟨k, rfl, ha, hs⟩ | ⟨rfl, ha⟩
  · simp only [partC] at h
    cases hr : readC cs off k with
    | none => rw [hr] at h; cases h
    | some l =>
      rw [hr] at h; cases h
      obtain ⟨hle, rfl⟩ := readC_eq hr
      refine ⟨.agg (cs'.extract off (off + k)), by simp [part, run_isAggT ha, run_szT hs], .agg _ _ ?_⟩
      have := (r.drop off).take k
      rw [Array.toList_extract]
      simpa [List.extract] using this
  · simp only [partC] at h
    obtain ⟨v', hv, hr⟩ := r.get off v h
    have hv' : cs'[off]? = some v' := by simpa using hv
    exact ⟨v', by simp [part, run_isAggT ha, hv'], hr⟩

/-! ### comparing -/
theorem eqB_sound {E : Env} {t : TypeId} {d : ED} {x y : V} {b : Bool} {x' y' : Value} (hd : primD P t = some d) (h : eqB d x y = some b) (hx : AR E x x') (hy : AR E y y') (k : Nat) (w : World) :
    (Op.equalIn (k + 1) t x' y').run P w = .ok b w := by
  unfold primD at hd
  unfold eqB at h
  split at hd <;> cases hd
  all_goals (rename_i hu)
  · split at h <;> first | (rename_i e1; cases e1; done) | skip
    all_goals first | (cases h; done) | skip
    · cases hx; cases hy; cases h; simp [Op.equalIn, run_underlying hu]
  · split at h <;> first | (rename_i e1; cases e1; done) | skip
    all_goals first | (cases h; done) | skip
    · rename_i e
      cases hx; cases hy
      split at h
      · rename_i hk
        have := of_decide_eq_true hk
        subst this
        cases h; simp [Op.equalIn, run_underlying hu]; rfl
      · cases h
  · split at h <;> first | (rename_i e1; cases e1; done) | skip
    all_goals first | (cases h; done) | skip
    · rename_i e
      cases hx with
      | str s x' e => cases hy with
        | str s2 y' e2 =>
          cases h
          simp only [Op.equalIn, Sem.run_bind, run_underlying hu, Result.andThen_ok, Sem.run_pure]
          rw [beq_toListBytes, str_inj e e2]
          congr 1
          rw [Bool.eq_iff_iff, seq_iff, decide_eq_true_eq]
  all_goals
    split at h <;> first | (rename_i e1; cases e1; done) | skip
    all_goals first
      | (cases h; done)
      | (cases hx <;> cases hy <;> cases h <;> simp [Op.equalIn, run_underlying hu]; done)

theorem eqBs_sound {E : Env} : ∀ {fs : List Field} {l : List (Nat × ED)} {xs ys : List V} {b : Bool} {xs' ys' : Array Value}, primFs P fs = some l → eqBs l xs ys = some b → ARs E xs xs'.toList → ARs E ys ys'.toList → ∀ (k : Nat) (w : World),
    (Op.eqFields (k + 1) xs' ys' fs).run P w = .ok b w
  | [], l, xs, ys, b, xs', ys', hp, h, hx, hy, k, w => by simp [primFs] at hp; subst hp; simp [eqBs] at h; subst h; simp [Op.eqFields]
  | fd :: fs, l, xs, ys, b, xs', ys', hp, h, hx, hy, k, w => by
    simp only [primFs] at hp
    split at hp
    · rename_i d l' hd hl hn
      cases hp
      simp only [eqBs] at h
      split at h
      · rename_i a c ha hc
        split at h
        · rename_i q r hq hr
          cases h
          have hagg : isAggT P fd.type = some false := by
            unfold primD at hd
            unfold isAggT
            split at hd <;> cases hd
            all_goals (rename_i hu; rw [hu])
          have hag : aggN P fd.type = some none := by unfold aggN; rw [hagg]
          obtain ⟨a', ra, rra⟩ := partC_sound (P := P) hag (by simpa [partC] using ha) hx w
          obtain ⟨c', rc, rrc⟩ := partC_sound (P := P) hag (by simpa [partC] using hc) hy w
          have h1 := eqB_sound hd hq rra rrc k w
          have h2 := eqBs_sound hl hr hx hy k w
          have hn' : fd.name ≠ "_" := by simpa using hn
          cases q with
          | true => simp [Op.eqFields, hn', ra, rc, h1, h2]
          | false => simp [Op.eqFields, hn', ra, rc, h1]
        · cases h
      · cases h
    · cases hp

theorem eqV_sound {E : Env} {t : TypeId} {d : ED} {x y : V} {b : Bool} {x' y' : Value} (hd : eqD P t = some d) (h : eqV d x y = some b) (hx : AR E x x') (hy : AR E y y') (w : World) :
    (Op.equal t x' y').run P w = .ok b w := by
  unfold eqD at hd
  split at hd
  · rename_i fields hu
    split at hd
    · cases hd
    · rename_i hs
      rw [Bool.or_eq_false_iff] at hs
      cases hf : primFs P fields.toList with
      | none => rw [hf] at hd; cases hd
      | some l =>
        rw [hf] at hd; cases hd
        have key : ∀ xs ys, x = .agg xs → y = .agg ys → eqBs l xs ys = some b → (Op.equal t x' y').run P w = .ok b w := by
          intro xs ys e1 e2 h
          subst e1; subst e2
          cases hx with
          | agg _ cs hl => cases hy with
            | agg _ cs2 hl2 =>
              have hf' : P.fieldsOf t = fields := by simp [Program.fieldsOf, hu]
              simp only [Op.equal, Op.maxDepth]
              rw [run_equalIn_struct (P := P) w 9999 t cs cs2 (by rw [hf']; exact hu) hs.1, hf']
              exact eqBs_sound hf h hl hl2 9998 w
        cases x <;> cases y <;> simp only [eqV, eqB] at h <;> first | (cases h; done) | exact key _ _ rfl rfl h
  · rename_i hns
    have : eqB d x y = some b := by
      cases d with
      | st fs =>
        unfold primD at hd
        split at hd <;> cases hd
      | _ => exact h
    exact eqB_sound hd this hx hy 9999 w

theorem binOp_eql {E : Env} {t : TypeId} {x y : V} {x' y' : Value} (hx : AR E x x') (hy : AR E y y') (h1 : ∀ k a k' b, x = .int k a → y = .int k' b → k = k') :
    (∀ (w : World) (b : Bool), (Op.equal t x' y').run P w = .ok b w → (∀ k a c, x = .int k a → y = .int k c → b = decide (a = c)) → (∀ a c, x = .str a → y = .str c → b = decide (a = c)) → (binOp .eql t x' y').run P w = .ok (.bool b) w ∧ (binOp .neq t x' y').run P w = .ok (.bool (!b)) w) := by
  intro w b he hi hs
  cases hx with
  | int k a => cases hy with
    | int k' c =>
      have := h1 _ _ _ _ rfl rfl
      subst this
      have hb := hi _ _ _ rfl rfl
      subst hb
      constructor
      · simp only [binOp, ne_eq, not_true_eq_false, if_false]; rfl
      · simp only [binOp, ne_eq, not_true_eq_false, if_false]; rfl
    | _ => constructor <;> simp [binOp, he]
  | str s x' e => cases hy with
    | str s' y' e' =>
      have hb := hs _ _ rfl rfl
      subst hb
      have hq : (x'.toList == y'.toList) = decide (s = s') := by
        rw [str_inj e e', Bool.eq_iff_iff, seq_iff, decide_eq_true_eq]
      constructor
      · simp [binOp, Op.stringOp, hq]
      · simp [binOp, Op.stringOp, hq]
    | _ => constructor <;> simp [binOp, he]
  | _ => constructor <;> simp [binOp, he]

theorem abin_sound {E : Env} {op : BinOp} {t : TypeId} {x y v : V} {x' y' : Value} (h : abin op x y = some v) (hx : AR E x x') (hy : AR E y y') (w : World) :
    ∃ v', (binOp op t x' y').run P w = .ok v' w ∧ AR E v v' := by
  unfold abin at h
  split at h
  · rename_i k a k2 b
    cases hx; cases hy
    split at h
    · cases h
    · rename_i hb
      cases h
      exact ⟨_, by simp [binOp, Op.shift, hb], .int _ _⟩
  · rename_i k a k2 b
    cases hx; cases hy
    split at h
    · cases h
    · rename_i hb
      cases h
      exact ⟨_, by simp [binOp, Op.shift, hb], .int _ _⟩
  · rename_i k a k' b h1 h2
    cases hx; cases hy
    split at h
    · rename_i e
      subst e
      cases op <;> simp only [Option.some.injEq, reduceCtorEq] at h
      case quo =>
        split at h
        · cases h
        · rename_i hb; cases h; exact ⟨_, by simp [binOp, Op.intDiv, hb], .int _ _⟩
      case rem =>
        split at h
        · cases h
        · rename_i hb; cases h; exact ⟨_, by simp [binOp, Op.intDiv, hb], .int _ _⟩
      all_goals (subst h; refine ⟨_, (by simp only [binOp, ne_eq, not_true_eq_false, if_false]; rfl), ?_⟩; first | exact .int _ _ | exact .bool _)
    · cases h
  · rename_i a b
    cases hx with
    | str s x' e => cases hy with
      | str s2 y' e2 =>
        have he : (x'.toList == y'.toList) = seq a b := str_inj e e2
        have hl : Op.bytesLess x'.toList y'.toList = slt a b := by rw [ByteArray.toList_eq, ByteArray.toList_eq, str_lt, e, e2]
        have hsx : x'.size = a.length := by rw [← e, List.length_map, Array.length_toList]; rfl
        have hsy : y'.size = b.length := by rw [← e2, List.length_map, Array.length_toList]; rfl
        cases op <;> simp only [Option.some.injEq, reduceCtorEq] at h
        case add =>
          split at h
          · rename_i hlim
            cases h
            refine ⟨.string (x' ++ y'), ?_, .str _ _ ?_⟩
            · have : ¬ ((x'.size + y'.size : Nat) : Int) > IntKind.i64.max := by
                unfold lim at hlim
                simp [IntKind.max, IntKind.signed, IntKind.bits]; omega
              simp only [binOp, Op.stringOp]
              rw [if_neg this]; rfl
            · simp [← e, ← e2]
          · cases h
        all_goals (subst h; exact ⟨_, by simp [binOp, Op.stringOp, he, hl] <;> rfl, .bool _⟩)
  · cases h

/-! ### cutting -/
theorem asIdx_sound {E : Env} {v : V} {v' : Value} {n : Nat} (h : asIdx v = some n) (r : AR E v v') : ∃ k, v = .int k n ∧ v' = .int k (n : Int) := by
  cases v <;> simp [asIdx] at h
  rename_i k m
  obtain ⟨h0, rfl⟩ := h
  cases r
  exact ⟨k, by rw [Int.toNat_of_nonneg h0], by rw [Int.toNat_of_nonneg h0]⟩

theorem nat?_sound {E : Env} {x : Option V} {x' : Option Value} {d n : Nat} (h : nat? x d = some n) (r : OptR E x x') :
    (x' = none ∧ n = d) ∨ ∃ k, x' = some (.int k (n : Int)) := by
  cases r with
  | none => simp [nat?] at h; exact .inl ⟨rfl, h.symm⟩
  | some v v' hr => obtain ⟨k, _, e⟩ := asIdx_sound h hr; exact .inr ⟨k, by rw [e]⟩

theorem run_bounds (w : World) (s : Bool) (len cap l h : Nat) {E : Env} {lo hi : Option V} {lo' hi' : Option Value} (hl : nat? lo 0 = some l) (hh : nat? hi len = some h) (rl : OptR E lo lo') (rh : OptR E hi hi') (h1 : l ≤ h) (h2 : h ≤ cap) :
    (Instr.sliceBounds s len cap lo' hi' none).run P w = .ok (l, h, cap) w := by
  rcases nat?_sound hl rl with ⟨rfl, rfl⟩ | ⟨k, rfl⟩ <;> rcases nat?_sound hh rh with ⟨rfl, rfl⟩ | ⟨k2, rfl⟩ <;>
    simp [Instr.sliceBounds, run_sliceBound, h1, h2]

theorem run_bounds3 (w : World) (len cap l h m : Nat) {E : Env} {lo hi : Option V} {lo' hi' : Option Value} {k : IntKind} (hl : nat? lo 0 = some l) (hh : nat? hi len = some h) (rl : OptR E lo lo') (rh : OptR E hi hi') (hhi : hi ≠ none) (h1 : l ≤ h) (h2 : h ≤ m) (h3 : m ≤ cap) :
    (Instr.sliceBounds true len cap lo' hi' (some (.int k (m : Int)))).run P w = .ok (l, h, m) w := by
  rcases nat?_sound hh rh with ⟨rfl, rfl⟩ | ⟨k2, rfl⟩
  · cases rh; exact absurd rfl hhi
  · rcases nat?_sound hl rl with ⟨rfl, rfl⟩ | ⟨k, rfl⟩ <;>
      simp [Instr.sliceBounds, run_sliceBound, h1, h2, h3]

theorem LC.cut_LC0 {c c' : LC} {l h len cap : Nat} {mx : Option Nat} (e : c.cut l h mx len = some c') (hlen : len ≤ cap) (hc : ∀ k, c = .ex k → cap = k) (hm : mx = none ∨ ∃ m, mx = some m ∧ h ≤ m) :
    (match mx with | some m => m ≤ cap ∧ c' = .ex (m - l) | none => (∀ k, c' = .ex k → k = cap - l) ∧ (∀ id, c' ≠ .tk id) ∧ c' ≠ .nl ∧ c' ≠ .nn) := by
  cases mx with
  | some m =>
    cases c with
    | ex k =>
      simp only [LC.cut] at e
      split at e
      · rename_i hk; cases e; exact ⟨by rw [hc k rfl]; exact hk.2, rfl⟩
      · cases e
    | _ =>
      simp only [LC.cut] at e
      split at e
      · rename_i hk; cases e; exact ⟨by omega, rfl⟩
      · cases e
  | none =>
    cases c with
    | ex k =>
      simp only [LC.cut] at e
      cases e
      refine ⟨fun k' h => ?_, (fun id h => by cases h), (by intro h; cases h), (by intro h; cases h)⟩
      cases h; rw [hc k rfl]
    | _ => simp only [LC.cut] at e; cases e; exact ⟨(by intro k h; cases h), (by intro id h; cases h), (by intro h; cases h), (by intro h; cases h)⟩

theorem LC0.any {c : LC} {a b : Option Addr} {n : Nat} {X : Prop} (h : X ∧ (∀ id, c ≠ .tk id) ∧ c ≠ .nl ∧ c ≠ .nn) (e : LC0 c a n) : LC0 c b n := by
  cases c with
  | nl => exact absurd rfl h.2.2.1
  | nn => exact absurd rfl h.2.2.2
  | _ => exact e

/-- a list's cut. -/
theorem lst_cut {E : Env} {es : List (List V)} {c c' : LC} {x' : Value} {l h sz len' cap' : Nat} {A : Option Addr} (rx : AR E (.lst es c) x') (hx' : x' = .slice A len' cap') (h1 : l ≤ h) (h2 : h ≤ es.length) (hz : l = 0 ∨ ∀ e ∈ es, e.length = sz) (capN : Nat) (hcap : h - l ≤ capN)
    (hc : (∀ k, c' = .ex k → k = capN) ∧ (∀ id, c' ≠ .tk id) ∧ c' ≠ .nl ∧ c' ≠ .nn) :
    AR E (.lst ((es.drop l).take (h - l)) c') (.slice (A.map fun a => if l = 0 then a else a.add (l * sz)) (h - l) capN) := by
  subst hx'
  have hLC : ∀ a, LC0 c' a capN := by
    intro a
    cases c' with
    | ex k => exact (hc.1 k rfl).symm
    | unk => trivial
    | tk id => exact absurd rfl (hc.2.1 id)
    | nl => exact absurd rfl hc.2.2.1
    | nn => exact absurd rfl hc.2.2.2
  cases rx with
  | lst0 _ _ _ _ =>
    have e1 : h - l = 0 := by simp at h2; omega
    rw [e1]
    simpa using AR.lst0 c' _ capN (hLC _)
  | lst e es' _ blk off n cap z hf hn hle hr =>
    by_cases e1 : h - l = 0
    · rw [e1]; simpa using AR.lst0 c' _ capN (hLC _)
    · have hzl : l * z = l * sz := by
        rcases hz with rfl | hz
        · simp
        · have := (hf.get 0 e rfl).1
          rw [← this, hz e (by simp)]
      have hdr := (hf.drop l).take (h - l)
      have hlen : (((e :: es').drop l).take (h - l)).length = h - l := by simp at h2 ⊢; omega
      generalize hg : (((e :: es').drop l).take (h - l)) = gs at hdr hlen
      cases gs with
      | nil => simp at hlen; omega
      | cons a as =>
        have hA : ((some (⟨blk, off, none⟩ : Addr)).map fun a => if l = 0 then a else a.add (l * sz)) = some ⟨blk, off + l * z, none⟩ := by
          simp only [Option.map_some]
          congr 1
          split
          · rename_i e; subst e; simp
          · rw [add_zero, hzl]
        rw [hA]
        refine .lst a as c' blk (off + l * z) (h - l) capN z hdr (by simpa using hlen.symm) hcap ?_
        cases c' with
        | ex k => exact (hc.1 k rfl).symm
        | unk => trivial
        | tk id => exact absurd rfl (hc.2.1 id)
        | nl => exact absurd rfl hc.2.2.1
        | nn => trivial

theorem lst_val {E : Env} {es : List (List V)} {c : LC} {x' : Value} (r : AR E (.lst es c) x') : ∃ A cap, x' = .slice A es.length cap ∧ es.length ≤ cap ∧ ∀ k, c = .ex k → cap = k := by
  cases r with
  | lst0 _ a cap h => exact ⟨a, cap, rfl, Nat.zero_le _, fun k e => by subst e; exact h⟩
  | lst e es' _ blk off n cap z hf hn hle hr => exact ⟨_, cap, by rw [hn]; rfl, by rw [List.length_cons, ← hn]; exact hle, fun k e => by subst e; exact hr⟩

theorem run_slice_slice {t el : TypeId} {sz : Nat} (hu : P.underlying t = some (.slice el)) (hz : szT P el = some sz) (w : World) {A : Option Addr} {len cap l h m : Nat} {lo' hi' mx' : Option Value}
    (hb : (Instr.sliceBounds true len cap lo' hi' mx').run P w = .ok (l, h, m) w) :
    ∃ A' : Option Addr, (Instr.sliceAt t (.slice A len cap) lo' hi' mx').run P w = .ok (.slice A' (h - l) (m - l)) w ∧ (m ≠ l → A' = A.map fun a => if l = 0 then a else a.add (l * sz)) := by
  cases A with
  | none => exact ⟨none, by simp [Instr.sliceAt, run_underlying hu, Instr.slice, hb, run_szT hz], fun _ => rfl⟩
  | some a =>
    by_cases e : m = l
    · refine ⟨some a, ?_, fun h => absurd e h⟩
      subst e
      simp [Instr.sliceAt, run_underlying hu, Instr.slice, hb, run_szT hz]
    · refine ⟨some (a.add (l * sz)), ?_, fun _ => ?_⟩
      · simp [Instr.sliceAt, run_underlying hu, Instr.slice, hb, run_szT hz, e]
      · simp only [Option.map_some]
        congr 1
        split
        · rename_i e0; subst e0
          unfold Addr.add; split <;> simp_all
        · rfl

theorem rslice_spec {t : TypeId} {x : Operand} {lo hi mx : Option Operand} {ro : RO} (h : rslice P t x lo hi mx = some ro) :
    ∃ x1 lo1 hi1 mx1 k, rx x = some x1 ∧ rxo lo = some lo1 ∧ rxo hi = some hi1 ∧ rxo mx = some mx1 ∧ ro = .slc k x1 lo1 hi1 mx1 ∧
      (match k with | .str => P.underlying t = some .string | .slice sz => ∃ el, P.underlying t = some (.slice el) ∧ szT P el = some sz | .arr n sz => ∃ el, P.underlying t = some (.array n el) ∧ szT P el = some sz) := by
  unfold rslice at h
  split at h
  · rename_i x1 lo1 hi1 mx1 hx hlo hhi hmx
    split at h
    · rename_i hu; cases h; exact ⟨_, _, _, _, .str, hx, hlo, hhi, hmx, rfl, hu⟩
    · rename_i el hu
      cases hs : szT P el with
      | none => rw [hs] at h; cases h
      | some sz => rw [hs] at h; cases h; exact ⟨_, _, _, _, .slice sz, hx, hlo, hhi, hmx, rfl, el, hu, hs⟩
    · rename_i n el hu
      cases hs : szT P el with
      | none => rw [hs] at h; cases h
      | some sz => rw [hs] at h; cases h; exact ⟨_, _, _, _, .arr n sz, hx, hlo, hhi, hmx, rfl, el, hu, hs⟩
    · cases h
  · cases h

theorem aslice_sound {E : Env} {t : TypeId} {kd : Kd} {x : V} {lo hi mx : Option V} {x' : Value} {lo' hi' mx' : Option Value} {v : V}
    (hk : match kd with | .str => P.underlying t = some .string | .slice sz => ∃ el, P.underlying t = some (.slice el) ∧ szT P el = some sz | .arr n sz => ∃ el, P.underlying t = some (.array n el) ∧ szT P el = some sz)
    (h : aslice kd x lo hi mx = some v)
    (rx : AR E x x') (rl : OptR E lo lo') (rh : OptR E hi hi') (rm : OptR E mx mx') (w : World) : ∃ v', (Instr.sliceAt t x' lo' hi' mx').run P w = .ok v' w ∧ AR E v v' := by
  unfold aslice at h
  split at h
  · rename_i s
    have hu : P.underlying t = some .string := hk
    cases rx with
    | str _ y e =>
    split at h
    · cases h
    · cases rm
      split at h
      · rename_i l hh hl hhh
        split at h
        · rename_i hc
          cases h
          have hs : y.size = s.length := by rw [← e, List.length_map, Array.length_toList]; rfl
          refine ⟨.string (y.extract l hh), ?_, .str _ _ (by rw [extract_bytes, e])⟩
          rw [← hs] at hhh hc
          have := run_bounds (P := P) w false y.size y.size l hh hl hhh rl rh hc.1 hc.2
          simp [Instr.sliceAt, run_underlying hu, Instr.slice, this]
        · cases h
      · cases h
  · rename_i sz es c
    obtain ⟨el, hu, hz⟩ := hk
    split at h
    · rename_i l hh m hl hhh hm
      split at h
      · rename_i hcond
        obtain ⟨h1, h2, h3⟩ := hcond
        cases hcut : c.cut l hh m es.length with
        | none => rw [hcut] at h; cases h
        | some c' =>
          rw [hcut] at h; cases h
          obtain ⟨A, cap, rfl, hle, hex⟩ := lst_val rx
          cases mx with
          | none =>
            cases rm
            cases hm
            have hb := run_bounds (P := P) w true es.length cap l hh hl hhh rl rh h1 (by omega)
            obtain ⟨A', hrun, hA'⟩ := run_slice_slice hu hz w (A := A) hb
            have hc' := LC.cut_LC0 hcut hle hex (.inl rfl)
            refine ⟨_, hrun, ?_⟩
            have := lst_cut (sz := sz) rx rfl h1 h2 h3 (cap - l) (by omega) hc'
            by_cases e : cap = l
            · have e0 : hh - l = 0 := by omega
              rw [e0] at this ⊢
              cases this with
              | lst0 _ _ _ hh0 => exact .lst0 _ _ _ (LC0.any hc' hh0)
            · rw [hA' e]; exact this
          | some mv =>
            cases rm with
            | some _ mv' hr =>
            cases hi with
            | none => cases hm
            | some hv =>
              simp only at hm
              cases hmi : asIdx mv with
              | none => rw [hmi] at hm; cases hm
              | some mm =>
                rw [hmi] at hm; cases hm
                obtain ⟨k, _, rfl⟩ := asIdx_sound hmi hr
                have hhm : hh ≤ mm := by
                  unfold LC.cut at hcut
                  simp only at hcut
                  split at hcut <;> split at hcut <;> first | (cases hcut; done) | (rename_i q; exact q.1)
                have hc' := LC.cut_LC0 hcut hle hex (.inr ⟨mm, rfl, hhm⟩)
                simp only at hc'
                obtain ⟨hmc, rfl⟩ := hc'
                have hb := run_bounds3 (P := P) w es.length cap l hh mm (k := k) hl hhh rl rh (by simp) h1 hhm hmc
                obtain ⟨A', hrun, hA'⟩ := run_slice_slice hu hz w (A := A) hb
                refine ⟨_, hrun, ?_⟩
                have := lst_cut (sz := sz) (c' := .ex (mm - l)) rx rfl h1 h2 h3 (mm - l) (by omega) ⟨(fun k h => by cases h; rfl), (fun id h => by cases h), (by intro h; cases h), (by intro h; cases h)⟩
                by_cases e : mm = l
                · have e0 : hh - l = 0 := by omega
                  rw [e0] at this ⊢
                  cases this with
                  | lst0 _ _ _ hh0 => exact .lst0 _ _ _ hh0
                · rw [hA' e]; exact this
      · cases h
    · cases h
  · rename_i sz b o len cap
    obtain ⟨el, hu, hz⟩ := hk
    split at h
    · rename_i l hh hl hhh
      split at h
      · cases rm
        split at h
        · rename_i z
          split at h
          · rename_i hc
            obtain ⟨h1, h2, rfl⟩ := hc
            cases h
            cases rx with
            | slo _ _ _ _ p c hE hext hn =>
              have := run_bounds (P := P) w true len c l hh hl hhh rl rh h1 (by omega)
              by_cases e : c = l
              · have e1 : hh - l = 0 := by omega
                refine ⟨.slice (some ⟨p.blk, p.off + o, none⟩) 0 0, ?_, by rw [e1]; exact .sl0 _ _ _ _ (by simp) p hE (fun z' hz' => by rw [← hext, e]; exact Nat.le_refl _)⟩
                subst e
                simp [Instr.sliceAt, run_underlying hu, Instr.slice, this, run_szT hz, e1]
              · refine ⟨.slice (some ⟨p.blk, p.off + (o + l * z), none⟩) (hh - l) (c - l), ?_, .slo _ _ _ _ p _ hE ?_ (by omega)⟩
                · simp [Instr.sliceAt, run_underlying hu, Instr.slice, this, run_szT hz, e, add_zero]; omega
                · rw [← hext, Nat.add_assoc, ← Nat.add_mul]
                  congr 2; omega
            | sl0 _ _ _ a hq p hE hzz =>
              have := run_bounds (P := P) w true 0 0 l hh hl hhh rl rh h1 (by omega)
              have e1 : l = 0 := by omega
              have e2 : hh = 0 := by omega
              subst e1; subst e2
              exact ⟨.slice (some a) 0 0, by simp [Instr.sliceAt, run_underlying hu, Instr.slice, this, run_szT hz], .sl0 _ _ _ _ (by simp) p hE (fun z' hz' => by rw [Nat.zero_mul, Nat.add_zero]; exact hzz _ rfl)⟩
          · cases h
        · rename_i c
          split at h
          · rename_i hc
            cases h
            cases rx with
            | sl _ _ _ p c hE hnc =>
              have := run_bounds (P := P) w true len c l hh hl hhh rl rh hc.1 hc.2
              by_cases e : c = l
              · refine ⟨.slice (some ⟨p.blk, p.off + o, none⟩) (hh - l) (c - l), ?_, by rw [if_pos e]; exact .sl _ _ _ p _ hE (by omega)⟩
                subst e
                simp [Instr.sliceAt, run_underlying hu, Instr.slice, this, run_szT hz]
              · refine ⟨.slice (some ⟨p.blk, p.off + (o + l * sz), none⟩) (hh - l) (c - l), ?_, by rw [if_neg e]; exact .sl _ _ _ p _ hE (by omega)⟩
                simp [Instr.sliceAt, run_underlying hu, Instr.slice, this, run_szT hz, e, add_zero]; omega
            | sl0 _ _ _ a hq p hE hzz =>
              have e0 := hq c rfl
              subst e0
              have := run_bounds (P := P) w true 0 0 l hh hl hhh rl rh hc.1 hc.2
              have e1 : l = 0 := by omega
              have e2 : hh = 0 := by omega
              subst e1; subst e2
              refine ⟨.slice (some a) 0 0, by simp [Instr.sliceAt, run_underlying hu, Instr.slice, this, run_szT hz], .sl0 _ _ _ _ (by simp) p hE (by simp)⟩
          · cases h
      · rename_i mv
        cases hi with
        | none => cases h
        | some hv =>
        cases hm : asIdx mv with
        | none => simp only [hm] at h; cases h
        | some m =>
          simp only [hm] at h
          by_cases hc : l ≤ hh ∧ hh ≤ m ∧ m ≤ cap.most len
          · rw [if_pos hc] at h
            obtain ⟨h1, h2, h3⟩ := hc
            cases h
            cases rm with
            | some _ mv' hr =>
              obtain ⟨k, _, rfl⟩ := asIdx_sound hm hr
              have key : ∀ (p : Place) (c : Nat), E.ob b = some p → m ≤ c → ∃ v', (Instr.sliceAt t (.slice (some ⟨p.blk, p.off + o, none⟩) len c) lo' hi' (some (.int k (m : Int)))).run P w = .ok v' w ∧ AR E (.sl b (if m = l then o else o + l * sz) (hh - l) (.ex (m - l))) v' := by
                intro p c hE hmc
                have := run_bounds3 (P := P) w len c l hh m (k := k) hl hhh rl rh (by simp) h1 h2 hmc
                by_cases e : m = l
                · refine ⟨.slice (some ⟨p.blk, p.off + o, none⟩) (hh - l) (m - l), ?_, by rw [if_pos e]; exact .sl _ _ _ p _ hE (by omega)⟩
                  subst e
                  simp [Instr.sliceAt, run_underlying hu, Instr.slice, this, run_szT hz]
                · refine ⟨.slice (some ⟨p.blk, p.off + (o + l * sz), none⟩) (hh - l) (m - l), ?_, by rw [if_neg e]; exact .sl _ _ _ p _ hE (by omega)⟩
                  simp [Instr.sliceAt, run_underlying hu, Instr.slice, this, run_szT hz, e, add_zero]; omega
              cases rx with
              | sl _ _ _ p c hE hnc => exact key p c hE h3
              | slo _ _ _ z p c hE hext hn => exact key p c hE (Nat.le_trans h3 hn)
              | sl0 _ _ cc a hq p hE hzz =>
                have h3' : m = 0 := by
                  cases cap with
                  | op z => simp [Cp.most] at h3; omega
                  | ex k => have := hq k rfl; simp [Cp.most] at h3; omega
                subst h3'
                have e1 : hh = 0 := by omega
                have e2 : l = 0 := by omega
                subst e1; subst e2
                have := run_bounds3 (P := P) w 0 0 0 0 0 (k := k) hl hhh rl rh (by simp) (Nat.le_refl _) (Nat.le_refl _) (Nat.le_refl _)
                refine ⟨.slice (some a) 0 0, ?_, .sl0 _ _ _ _ (by simp) p hE (by simp)⟩
                simp only [Instr.sliceAt, Sem.run_bind, run_underlying hu, Result.andThen_ok, Instr.slice, this, run_szT hz]
                simp
          · rw [if_neg hc] at h; cases h
    · cases h
  · rename_i n sz b o
    obtain ⟨el, hu, hz⟩ := hk
    split at h
    · rename_i l hh hl hhh
      cases rm
      split at h
      · rename_i hc
        cases h
        cases rx with
        | ptr _ _ p hE =>
          have := run_bounds (P := P) w false n n l hh hl hhh rl rh hc.1 hc.2
          by_cases e : n = l
          · refine ⟨.slice (some ⟨p.blk, p.off + o, none⟩) (hh - l) (n - l), ?_, by rw [if_pos e]; exact .sl _ _ _ p _ hE (by omega)⟩
            subst e
            simp [Instr.sliceAt, run_underlying hu, Instr.sureAddr, this, run_szT hz]
          · refine ⟨.slice (some ⟨p.blk, p.off + (o + l * sz), none⟩) (hh - l) (n - l), ?_, by rw [if_neg e]; exact .sl _ _ _ p _ hE (by omega)⟩
            simp [Instr.sliceAt, run_underlying hu, Instr.sureAddr, this, run_szT hz, e, add_zero]; omega
      · cases h
    · cases h
  · cases h
end Go.VM
