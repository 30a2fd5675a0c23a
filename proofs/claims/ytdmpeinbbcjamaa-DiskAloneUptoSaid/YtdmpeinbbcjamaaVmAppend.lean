/- The machine of values: append. -/
import Derived.Test.YtdmpeinbbcjamaaVmStore
set_option linter.unusedVariables false
set_option linter.unusedSimpArgs false
namespace Go.VM
open Go.RowKit
variable {P : Program}

/-- what an append's types say. -/
structure AppT (P : Program) (argTypes : Array TypeId) (sz bytes : Nat) (z : List V) : Prop where
  all : ∃ st xt el tx i z0, argTypes[0]? = some st ∧ argTypes[1]? = some xt ∧ P.underlying st = some (.slice el) ∧ P.underlying xt = some tx ∧ (∀ k, tx ≠ .int k) ∧ P.info? el = some i ∧ zeroT P el = some z0 ∧ z0.cells = z ∧ i.size = sz ∧ i.bytes = bytes
  s0 : 0 < sz
  b0 : 0 < bytes
  zl : z.length = sz

theorem rop_app {o : Oper} {x y : RX} {sz bytes : Nat} {z : List V} (ho : rop P o = some (.app x y sz bytes z)) :
    ∃ dst ty pos after guard args argTypes, o = ⟨dst, .call ⟨.builtin .append, args, argTypes⟩, ty, pos, after, guard⟩ ∧ rxs args.toList = some [x, y] ∧ AppT P argTypes sz bytes z := by
  obtain ⟨dst, op, ty, pos, after, guard⟩ := o
  have hk := rop_kind ho
  cases op with
  | call c =>
    obtain ⟨callee, args, argTypes⟩ := c
    cases callee with
    | builtin b =>
      simp only [rop] at ho
      have hb : b = .append := by cases b <;> first | rfl | (simp [kindOp, kindRO] at hk)
      subst hb
      simp only [rbuiltin] at ho
      split at ho
      · rename_i x0 y0 hxs
        split at ho
        · rename_i el tx h0 h1
          split at ho
          · cases ho
          · rename_i hnt
            split at ho
            · rename_i i z0 hi hz
              split at ho
              · rename_i hc
                cases ho
                simp only [Bool.and_eq_true] at hc
                obtain ⟨⟨⟨c1, c2⟩, c3⟩, c4⟩ := hc
                cases hx : argTypes[0]? with
                | none => rw [hx] at h0; cases h0
                | some st =>
                  rw [hx] at h0
                  cases hy : argTypes[1]? with
                  | none => rw [hy] at h1; cases h1
                  | some xt =>
                    rw [hy] at h1
                    exact ⟨dst, ty, pos, after, guard, args, argTypes, rfl, hxs, ⟨st, xt, el, tx, i, z0, hx, hy, h0, h1, fun k e => hnt k e, hi, hz, rfl, rfl, rfl⟩, by rwa [Nat.blt_eq] at c1, by rwa [Nat.blt_eq] at c2, Nat.eq_of_beq_eq_true c3⟩
              · cases ho
            · cases ho
        · cases ho
      · cases ho
    | _ => simp [kindOp, kindRO] at hk
  | _ => simp [kindOp, kindRO] at hk

section
variable {argTypes : Array TypeId} {ty : TypeId} {sz bytes : Nat} {z : List V}

/-- what an append in its place does. -/
def StayP (P : Program) (base : Option Addr) (d : Nat) (cn : List Value) (w w' : World) : Prop :=
  match base with | some a => (storeCells (a.add d) cn).run P w = .ok () w' | none => w' = w

/-- the model appends in its place. -/
theorem run_append_stay (T : AppT P argTypes sz bytes z) {base : Option Addr} {sl n cap : Nat} {x' : Value} {cn : Array Value} {w w' : World} (hlx : (Builtin.lenOf x').run P w = .ok n w) (hcn : (Builtin.firstCells sz n x').run P w = .ok cn w) (hle : sl + n ≤ cap)
    (hst : StayP P base (sl * sz) cn.toList w w') : (Builtin.append_ argTypes ty #[.slice base sl cap, x']).run P w = .ok (.slice base (sl + n) cap) w' := by
  obtain ⟨st, xt, el, tx, i, z0, h1, hxt, hu, hut, htx, hi, hz, rfl, rfl, rfl⟩ := T.all
  have hzeros := notInt htx
  have hsz : szT P el = some i.size := by simp [szT, hi]
  simp only [Builtin.append_, h1, hxt]
  simp only [List.getElem?_toArray, List.getElem?_cons_zero, List.getElem?_cons_succ, Sem.run_bind, run_underlying hu, Result.andThen_ok, run_szT hsz, run_underlying hut, Sem.run_pure, hzeros, Bool.false_eq_true, if_false, hlx, if_pos hle, Bool.not_false, if_true, hcn]
  cases base with
  | none => simp [StayP] at hst; subst hst; rfl
  | some a =>
    have hst : (storeCells (a.add (sl * i.size)) cn.toList).run P w = .ok () w' := hst
    simp only [Sem.run_bind, hst, Result.andThen_ok]; rfl

/-- the model makes a new row for what is appended to. -/
theorem run_append_new (T : AppT P argTypes sz bytes z) {base : Option Addr} {sl n cap : Nat} {x' : Value} {co cn : Array Value} {w : World} (hlx : (Builtin.lenOf x').run P w = .ok n w) (hcap : cap < sl + n) (hbytes : bytes * (sl + n) ≤ lim)
    (hold : (Builtin.firstCells sz sl (.slice base sl cap)).run P { w with drawn := w.drawn + 1 } = .ok co { w with drawn := w.drawn + 1 }) (hnew : (Builtin.firstCells sz n x').run P { w with drawn := w.drawn + 1 } = .ok cn { w with drawn := w.drawn + 1 })
    (hco : co.size = sl * sz) (hcn : cn.size = n * sz) :
    ∃ el nc rest, sl + n ≤ nc ∧ (co ++ cn ++ rest).size = nc * sz ∧ (Builtin.append_ argTypes ty #[.slice base sl cap, x']).run P w = .ok (.slice (some ⟨w.heap.size, 0, none⟩) (sl + n) nc) { w with heap := w.heap.push (.cells (co ++ cn ++ rest) el (0, 0)), drawn := w.drawn + 1 } := by
  have hb0 := T.b0
  have hs0 := T.s0
  have hzl := T.zl
  obtain ⟨st, xt, el, tx, i, z0, h1, hxt, hu, hut, htx, hi, hz, rfl, rfl, rfl⟩ := T.all
  obtain ⟨z', hz', rz⟩ := run_zeroT ⟨fun _ => none, fun _ _ => none, fun _ _ => none⟩ hz { w with drawn := w.drawn + 1 }
  let q := Question.appendCap (sl + n) cap el
  let nc : Nat := q.cut (w.tape w.drawn q)
  have hnc : sl + n ≤ nc := Nat.le_add_right _ _
  let rest := Builtin.zeroCells z'.cells (nc - (sl + n))
  have hzsz : z'.cells.size = i.size := by have := rz.cells.length; simp at this; omega
  have hrest : rest.size = (nc - (sl + n)) * i.size := by simp [rest, Builtin.zeroCells, hzsz]
  have htot : (co ++ cn ++ rest).size = nc * i.size := by
    simp only [Array.size_append, hco, hcn, hrest]
    rw [← Nat.add_mul, ← Nat.add_mul]; congr 1; omega
  refine ⟨el, nc, rest, hnc, htot, ?_⟩
  have hzeros := notInt htx
  have hnot : ¬ (sl + n ≤ cap) := by omega
  have hmax : ¬ (((sl + n : Nat) : Int) > IntKind.i64.max ∧ (False ∨ i.bytes = 0)) := by
    rintro ⟨_, g | g⟩
    · exact g
    · omega
  have hneed : sl + n ≤ lim := Nat.le_trans (Nat.le_mul_of_pos_left _ hb0) hbytes
  have hncap : ¬ (Builtin.nextslicecap (sl + n) cap * i.bytes > 2 ^ 48) := by
    have g1 := nextcap_le hcap
    have g2 : Builtin.nextslicecap (sl + n) cap * i.bytes ≤ 16 * (sl + n) * i.bytes := Nat.mul_le_mul_right _ g1
    have g3 : 16 * (sl + n) * i.bytes = 16 * (i.bytes * (sl + n)) := by rw [Nat.mul_assoc, Nat.mul_comm (sl + n)]
    unfold lim at hbytes
    omega
  have hsz : szT P el = some i.size := by simp [szT, hi]
  simp only [Builtin.append_, h1, hxt]
  simp only [List.getElem?_toArray, List.getElem?_cons_zero, List.getElem?_cons_succ, Sem.run_bind, run_underlying hu, Result.andThen_ok, run_szT hsz, run_underlying hut, Sem.run_pure, hzeros, Bool.false_eq_true, if_false, hlx, if_neg hnot, run_info hi]
  simp only [Sem.run_ite, if_neg hmax, Sem.run_bind, run_info hi, Result.andThen_ok, if_neg hncap, run_choose, show (Question.appendCap (sl + n) cap el).forced = false from rfl, Bool.false_eq_true, if_false, run_askRoom, hold, Bool.not_false, if_true, hnew, hz', newRow, run_newObj, Sem.run_pure]
  rfl
end

/-! ### what is appended, and to what -/
section
variable {gl : List Nat} {nt : Nat} {tm : TM} {h : H}

/-- elements that are appended. -/
inductive NewEs (gl : List Nat) (tm : TM) (h : H) (y : RX) (sz : Nat) : List (List V) → Prop where
  | lst (fs : List (List V)) (c : LC) (hy : rv gl tm y = some (.lst fs c)) (hz : ∀ e ∈ fs, e.length = sz) : NewEs gl tm h y sz fs
  | str (s : List Nat) (hy : rv gl tm y = some (.str s)) (hz : sz = 1) : NewEs gl tm h y sz (s.map fun (n : Nat) => [V.int .u8 n])
  | sl (b o : Nat) (c : Cp) (cs : List V) (opn : Bool) (ns : List (List V)) (hy : rv gl tm y = some (.sl b o ns.length c)) (hb : h.ob b = some (.cells opn cs)) (hr : readC cs o (ns.length * sz) = some ns.flatten) (hz : ∀ e ∈ ns, e.length = sz) : NewEs gl tm h y sz ns

theorem NewEs.len {y : RX} {sz : Nat} {ns : List (List V)} (r : NewEs gl tm h y sz ns) : ∀ e ∈ ns, e.length = sz := by
  cases r with
  | lst fs c hy hz => exact hz
  | str s hy hz => subst hz; simp
  | sl b o c cs opn ns hy hb hr hz => exact hz

/-- cells of an old list. -/
theorem lst_first {E : Env} {F : Fx} {w0 w : World} (m : MR E F h w0 w) {es : List (List V)} {c : LC} {x' : Value} {sz : Nat} (r : AR E (.lst es c) x') (hz : ∀ e ∈ es, e.length = sz) :
    ∃ co : Array Value, (Builtin.firstCells sz es.length x').run P w = .ok co w ∧ ARs E es.flatten co.toList ∧ es.flatten.all V.isCell = true := by
  cases r with
  | lst0 _ a cap hc =>
    refine ⟨#[], ?_, .nil, rfl⟩
    cases a <;> simp [Builtin.firstCells, loadCells, loadCellsFrom]
  | lst e es' _ blk off n cap z hf hn hle hr =>
    obtain ⟨f1, f2⟩ := hf.flat
    have hz0 : z = sz := by rw [← (hf.get 0 e rfl).1]; exact hz e (by simp)
    subst hz0
    have hread : readC (e :: es').flatten 0 ((e :: es').length * z) = some (e :: es').flatten := by
      exact readC_all f2
    obtain ⟨l', g1, g2, g3, g4, g5⟩ := (m.seen f1).read (P := P) hread
    exact ⟨l'.toArray, by simpa [Builtin.firstCells] using g1, by simpa using g2, g4⟩

theorem lst_lenOf {E : Env} {es : List (List V)} {c : LC} {x' : Value} (r : AR E (.lst es c) x') (w : World) : (Builtin.lenOf x').run P w = .ok es.length w := by
  obtain ⟨A, cap, rfl, _⟩ := lst_val r
  simp [Builtin.lenOf]

theorem str_first {E : Env} {s : List Nat} {y : ByteArray} (e : y.data.toList.map UInt8.toNat = s) : ARs E (s.map fun n : Nat => V.int .u8 n) ((y.extract 0 s.length).data.map fun b => Value.int .u8 b.toNat).toList := by
  have hs : y.data.size = s.length := by rw [← e]; simp
  have he : (y.extract 0 s.length).data.toList = y.data.toList := by
    rw [ByteArray.data_extract, Array.toList_extract]; simp [List.extract]; rw [List.take_of_length_le (by simp [hs])]
  rw [Array.toList_map, he, ← e]
  generalize y.data.toList = l
  induction l with
  | nil => exact .nil
  | cons a l ih => exact .cons _ _ _ _ (.int _ _) ih

theorem ones_flat (s : List Nat) : (s.map fun n : Nat => [V.int .u8 n]).flatten = s.map fun n : Nat => V.int .u8 n := by
  induction s with
  | nil => rfl
  | cons b bs ih => rw [List.map_cons, List.flatten_cons, ih]; rfl

theorem NewEs.sound {E : Env} {F : Fx} {w0 w : World} (m : MR E F h w0 w) {y : RX} {sz : Nat} {ns : List (List V)} (r : NewEs gl tm h y sz ns) {v : V} {y' : Value} (hv : rv gl tm y = some v) (ra : AR E v y') :
    (Builtin.lenOf y').run P w = .ok ns.length w ∧ ∃ cn : Array Value, (Builtin.firstCells sz ns.length y').run P w = .ok cn w ∧ ARs E ns.flatten cn.toList ∧ ns.flatten.all V.isCell = true := by
  cases r with
  | lst fs c hy hz =>
    rw [hy] at hv; cases hv
    exact ⟨lst_lenOf ra w, lst_first m ra hz⟩
  | str s hy hz =>
    rw [hy] at hv; cases hv
    subst hz
    cases ra with
    | str _ x e =>
      have hs : x.size = s.length := by rw [← e, List.length_map, Array.length_toList]; rfl
      refine ⟨by simp [Builtin.lenOf, hs], ?_⟩
      rw [ones_flat, List.length_map]
      exact ⟨_, rfl, str_first e, by simp [V.isCell]⟩
  | sl b o c cs opn ns hy hb hr hz =>
    rw [hy] at hv; cases hv
    have hall := fun p (hE : E.ob b = some p) => (CellsR.seen (m.obj b _ p hb hE)).read (P := P) hr
    have hfl := flat_len hz
    generalize ns.length = n at *
    refine ⟨by cases ra <;> simp [Builtin.lenOf], ?_⟩
    cases ra with
    | sl _ _ _ p cc hE hnc =>
      obtain ⟨l', g1, g2, g3, g4, g5⟩ := hall p hE
      exact ⟨l'.toArray, g1, by simpa using g2, g4⟩
    | slo _ _ _ zz p cc hE hc hnc =>
      obtain ⟨l', g1, g2, g3, g4, g5⟩ := hall p hE
      exact ⟨l'.toArray, g1, by simpa using g2, g4⟩
    | sl0 _ _ _ a hc p hE hzz =>
      have : ns.flatten = [] := List.eq_nil_of_length_eq_zero (by rw [hfl]; simp)
      rw [this]
      exact ⟨#[], by simp [Builtin.firstCells, loadCells, loadCellsFrom], .nil, rfl⟩

theorem two_args {E : Env} {L : Nat → Option Place} {tmps : Array Value} (hg : GL E gl) (r : TR E L nt tm tmps) {args : Array Operand} {x y : RX} {v0 v1 : V} (h1 : rxs args.toList = some [x, y]) (h2 : rv gl tm x = some v0) (h3 : rv gl tm y = some v1) :
    ∃ a b, args.map (evT tmps) = #[a, b] ∧ AR E v0 a ∧ AR E v1 b := by
  have := rvs_sound hg r h1 (show rvs gl tm [x, y] = some [v0, v1] by simp [rvs, h2, h3])
  generalize hq : args.toList.map (evT tmps) = l at this
  cases this with | cons _ v' _ _ h1 t => cases t with | cons _ v'' _ _ h2 t => cases t; exact ⟨v', v'', by apply Array.toList_inj.1; simpa using hq, h1, h2⟩

/-- what is known of what is appended. -/
theorem NewEs.val {y : RX} {sz : Nat} {ns : List (List V)} (r : NewEs gl tm h y sz ns) : ∃ v, rv gl tm y = some v := by
  cases r with
  | lst fs c hy hz => exact ⟨_, hy⟩
  | str s hy hz => exact ⟨_, hy⟩
  | sl b o c cs opn ns hy hb hr hz => exact ⟨_, hy⟩

/-- nothing is appended. -/
theorem app_none {o : Oper} {x y : RX} {sz bytes : Nat} {z : List V} {es : List (List V)} {c : LC} (ho : rop P o = some (.app x y sz bytes z)) (hx : rv gl tm x = some (.lst es c)) (hy : NewEs gl tm h y sz []) : Does P gl nt tm h o (.v (.lst es c)) h := by
  obtain ⟨dst, ty, pos, after, guard, args, argTypes, rfl, hxs, T⟩ := rop_app ho
  obtain ⟨vy, hvy⟩ := hy.val
  intro E F w0 w tmps m hg r
  obtain ⟨s', y', harr, rs, ry⟩ := two_args hg r hxs hx hvy
  obtain ⟨hl, cn, hcn, rn, hall⟩ := hy.sound (P := P) m hvy ry
  obtain ⟨A, cap, rfl, hle, hc⟩ := lst_val rs
  have h0 : cn.toList = [] := by cases hq : cn.toList with | nil => rfl | cons a l => rw [hq] at rn; cases rn
  have hst : StayP P A (es.length * sz) cn.toList w w := by
    cases A with
    | none => rfl
    | some a => rw [h0]; rfl
  have hrun := run_append_stay (ty := ty) T (base := A) (sl := es.length) (n := 0) (cap := cap) hl hcn hle hst
  exact ⟨E, F, w, _, _, by rw [exec_builtin, harr]; exact val_run hrun, .inl rfl, Ext.refl _ _, rfl, rfl, m, .v _ _ rs⟩

theorem app_all {es ns : List (List V)} (h1 : es.flatten.all V.isCell = true) (h2 : ns.flatten.all V.isCell = true) : (es ++ ns.map (·.map V.clean1)).flatten.all V.isCell = true := by
  rw [List.flatten_append, flatten_clean, List.all_append, h1, all_clean h2]; rfl

theorem app_len {es ns : List (List V)} {sz : Nat} (h1 : ∀ e ∈ es, e.length = sz) (h2 : ∀ e ∈ ns, e.length = sz) : ∀ e ∈ es ++ ns.map (·.map V.clean1), e.length = sz := by
  intro e he
  rcases List.mem_append.1 he with he | he
  · exact h1 e he
  · obtain ⟨e0, h0, rfl⟩ := List.mem_map.1 he
    simpa using h2 e0 h0

/-- a new row is made; what it comes to, whatever is told of what stands behind it. -/
theorem app_row {E : Env} {F : Fx} {w0 w : World} (m : MR E F h w0 w) {argTypes : Array TypeId} {ty : TypeId} {sz bytes : Nat} {z : List V} (T : AppT P argTypes sz bytes z) {es ns : List (List V)} {c : LC} {A : Option Addr} {cap : Nat} {y : RX} {vy : V} {y' : Value} (rs : AR E (.lst es c) (.slice A es.length cap)) (hz : ∀ e ∈ es, e.length = sz)
    (hy : NewEs gl tm h y sz ns) (hvy : rv gl tm y = some vy) (ry : AR E vy y') (hcap : cap < es.length + ns.length) (hlim : bytes * (es.length + ns.length) ≤ lim) :
    ∃ (c2 : Array Value) (el nc : Nat), es.length + ns.length ≤ nc ∧ c2.size = nc * sz ∧ (Builtin.append_ argTypes ty #[.slice A es.length cap, y']).run P w = .ok (.slice (some ⟨w.heap.size, 0, none⟩) (es.length + ns.length) nc) { w with heap := w.heap.push (.cells c2 el (0, 0)), drawn := w.drawn + 1 } ∧
      ∀ (E' : Env) (lc : LC), E.le E' → (∀ i x, i < (es.length + ns.length) * sz → c2[i]? = some x → E'.fz w.heap.size i = some x) →
        (match lc with | .ex k => nc = k | .unk => True | .nl => False | .nn => False | .tk id => E'.tk id (es.length + ns.length) = some ⟨w.heap.size, (es.length + ns.length) * sz, (nc - (es.length + ns.length)) * sz⟩ ∧ 0 < es.length + ns.length) →
        AR E' (.lst (es ++ ns.map (·.map V.clean1)) lc) (.slice (some ⟨w.heap.size, 0, none⟩) (es.length + ns.length) nc) := by
  have md := m.drawn (w.drawn + 1)
  obtain ⟨hl, cn0, hcn0, _⟩ := hy.sound (P := P) m hvy ry
  obtain ⟨hl', cn, hcn, rn, hnall⟩ := hy.sound (P := P) md hvy ry
  obtain ⟨co, hco, rc, hcall⟩ := lst_first (P := P) md rs hz
  have lco : co.size = es.length * sz := by have := rc.length; rw [flat_len hz, Array.length_toList] at this; exact this.symm
  have lcn : cn.size = ns.length * sz := by have := rn.length; rw [flat_len hy.len, Array.length_toList] at this; exact this.symm
  obtain ⟨el, nc, rest, h1, h2, h3⟩ := run_append_new (ty := ty) T hl hcap hlim hco hcn lco lcn
  refine ⟨co ++ cn ++ rest, el, nc, h1, h2, h3, fun E' lc hle hf hlc => ?_⟩
  have hcs : (co ++ cn).size = (es.length + ns.length) * sz := by rw [Array.size_append, lco, lcn, Nat.add_mul]
  refine lst_made (sz := sz) (c := co ++ cn) hle ?_ (app_len hz hy.len) (app_all hcall hnall) (by simp) (Nat.le_refl _) (co ++ cn ++ rest) (fun i hi => ?_) hf h1 hlc
  · rw [List.flatten_append, flatten_clean, Array.toList_append]
    exact rc.append rn.clean1
  · exact Array.getElem?_append_left (by rw [hcs]; exact hi)

/-! ### tokens -/
def updT (E : Env) (b n : Nat) (p : Place) : Env := { E with tk := fun k i => if k = b ∧ i = n then some p else E.tk k i }

theorem updT_le {E : Env} {b n : Nat} {p : Place} (h : E.tk b n = none) : E.le (updT E b n p) := by
  refine ⟨fun _ _ h => h, fun _ _ _ h => h, fun k i q hk => ?_⟩
  simp only [updT]
  rw [if_neg]
  · exact hk
  · rintro ⟨rfl, rfl⟩; rw [h] at hk; cases hk

theorem TokR.world {p : Place} {w w' : World} (h : w'.heap[p.blk]? = w.heap[p.blk]?) (r : TokR p w) : TokR p w' := by
  simpa only [TokR, h] using r

/-- where one more element may stand, is told. -/
theorem MR.setTok {E : Env} {F : Fx} {w0 w : World} (m : MR E F h w0 w) {b n : Nat} {p : Place} {h' : H} (hlt : b < h'.nxt) (hg : glim ≤ b) (hn : h.nxt ≤ h'.nxt) (hob : ∀ k, h'.ob k = if k = b then some (.tok n) else h.ob k) (hlc : h'.lc = h.lc)
    (hE : E.ob b = none) (htk : ∀ i, n ≤ i → E.tk b i = none) (hown : F.own p.blk = .tk b) (hw0 : w0.heap.size ≤ p.blk) (ht : TokR p w) (hfz : ∀ i, p.off ≤ i → E.fz p.blk i = none) : MR (updT E b n p) F h' w0 w := by
  have hle := updT_le (p := p) (htk n (Nat.le_refl _))
  have hs : ∀ k o, h'.ob k = some o → (k = b ∧ o = .tok n) ∨ (k ≠ b ∧ h.ob k = some o) := by
    intro k o hk
    rw [hob] at hk
    split at hk
    · rename_i e; cases hk; exact .inl ⟨e, rfl⟩
    · rename_i e; exact .inr ⟨e, hk⟩
  have ht' : ∀ k i q, (updT E b n p).tk k i = some q → (k = b ∧ i = n ∧ q = p) ∨ E.tk k i = some q := by
    intro k i q hk
    simp only [updT] at hk
    split at hk
    · rename_i e; cases hk; exact .inl ⟨e.1, e.2, rfl⟩
    · exact .inr hk
  refine ⟨m.below, fun k hk => ?_, Nat.le_trans m.glo hn, fun k o hk ho => ?_, m.gbl, m.lto, fun k o q hk hq => ?_, fun k o q hk' hk hq => ?_, m.fz, m.oFz, fun k i q hk hq => ?_, fun k i j hk hj => ?_, fun k i hk => ?_, fun d q hq => ?_, m.prot⟩
  · obtain ⟨a1, a2, a3⟩ := m.fresh k (Nat.le_trans hn hk)
    refine ⟨a1, by rw [hob, if_neg (by omega)]; exact a2, fun i => ?_⟩
    simp only [updT]; rw [if_neg (by omega)]; exact a3 i
  · rcases hs k o ho with ⟨rfl, rfl⟩ | ⟨_, h2⟩
    · omega
    · exact m.glb k o hk h2
  · rcases hs k o hk with ⟨rfl, rfl⟩ | ⟨_, h2⟩
    · rw [show (updT E k n p).ob k = E.ob k from rfl, hE] at hq; cases hq
    · exact (m.obj k o q h2 hq).mono hle
  · rcases hs k o hk with ⟨rfl, rfl⟩ | ⟨_, h2⟩
    · rw [show (updT E k n p).ob k = E.ob k from rfl, hE] at hq; cases hq
    · exact m.oOb k o q hk' h2 hq
  · rcases hs k _ hk with ⟨rfl, e⟩ | ⟨e, h2⟩
    · cases e
      have : q = p := by
        have hq' : (if k = k ∧ n = n then some p else E.tk k n) = some q := hq
        rw [if_pos ⟨rfl, rfl⟩] at hq'; exact (Option.some.inj hq').symm
      subst this
      exact ⟨hown, hw0, ht, hfz⟩
    · rcases ht' k i q hq with ⟨e2, _, _⟩ | h3
      · exact absurd e2 e
      · exact m.tok k i q h2 h3
  · rcases hs k _ hk with ⟨rfl, e⟩ | ⟨e, h2⟩
    · cases e
      simp only [updT]; rw [if_neg (by omega)]; exact htk j (by omega)
    · simp only [updT]; rw [if_neg (by omega)]; exact m.tokn k i j h2 hj
  · rcases hs k _ hk with ⟨rfl, e⟩ | ⟨e, h2⟩
    · exact hE
    · exact m.toko k i h2
  · obtain ⟨a1, a2, cs, a3, a4⟩ := m.loc d q hq
    exact ⟨a1, a2, cs, by rw [hlc]; exact a3, a4.mono hle⟩

theorem Ext.setTok {E : Env} {b n : Nat} {p : Place} {h' : H} (hn : h.nxt ≤ h'.nxt) (hob : ∀ k, h'.ob k = if k = b then some (.tok n) else h.ob k) (htk : E.tk b n = none) (hb : h.ob b = none ∨ ∃ i, h.ob b = some (.tok i)) : Ext E h (updT E b n p) h' := by
  refine ⟨updT_le htk, fun _ _ => rfl, hn, fun k o hk he ho hno => ?_⟩
  rw [hob, if_neg]
  · exact ho
  · rintro rfl
    rcases hb with hb | ⟨i, hb⟩
    · rw [ho] at hb; cases hb
    · rw [ho] at hb; cases hb; exact hno i rfl

/-- append to a list that has no room: a new row. -/
theorem app_ex {o : Oper} {x y : RX} {sz bytes k : Nat} {z : List V} {es ns : List (List V)} (ho : rop P o = some (.app x y sz bytes z)) (hx : rv gl tm x = some (.lst es (.ex k))) (hz : ∀ e ∈ es, e.length = sz) (hy : NewEs gl tm h y sz ns) (hk : k < es.length + ns.length) (hlim : bytes * (es.length + ns.length) ≤ lim) :
    Does P gl nt tm h o (.v (.lst (es ++ ns.map (·.map V.clean1)) (.tk h.nxt))) (h.new (.tok (es.length + ns.length))) := by
  obtain ⟨dst, ty, pos, after, guard, args, argTypes, rfl, hxs, T⟩ := rop_app ho
  obtain ⟨vy, hvy⟩ := hy.val
  intro E F w0 w tmps m hg r
  obtain ⟨s', y', harr, rs, ry⟩ := two_args hg r hxs hx hvy
  obtain ⟨A, cap, rfl, hle, hc⟩ := lst_val rs
  have hck := hc k rfl
  subst hck
  obtain ⟨c2, el, nc, h1, h2, h3, h4⟩ := app_row (ty := ty) m T rs hz hy hvy ry hk hlim
  obtain ⟨f1, f2, f3⟩ := m.fresh h.nxt (Nat.le_refl _)
  have md := m.drawn (w.drawn + 1)
  let cnt := (es.length + ns.length) * sz
  have hleZ := md.updZ_le cnt c2
  have mz := md.frozen cnt c2 el (0, 0) (.tk h.nxt) (.inr ⟨_, rfl⟩)
  let p : Place := ⟨w.heap.size, cnt, (nc - (es.length + ns.length)) * sz⟩
  have hob : ∀ k, (h.new (.tok (es.length + ns.length))).ob k = if k = h.nxt then some (.tok (es.length + ns.length)) else h.ob k := fun k => rfl
  have mt := mz.setTok (p := p) (b := h.nxt) (n := es.length + ns.length) (h' := h.new (.tok (es.length + ns.length))) (Nat.lt_succ_self _) m.glo (Nat.le_succ _) hob rfl f1 (fun i _ => f3 i) (by simp [p, updO]) m.below.size
    ⟨c2, el, 0, 0, by simp [p], by omega, by simp only [p, cnt]; rw [h2, ← Nat.add_mul]; exact Nat.mul_le_mul_right _ (by omega)⟩ (fun i hi => by
      simp only [updZ, p, if_true]; rw [if_neg (by simp only [p] at hi; omega)])
  have x1 : Ext E h (updT (updZ E w.heap.size cnt c2) h.nxt (es.length + ns.length) p) (h.new (.tok (es.length + ns.length))) := by
    have e1 : Ext E h (updZ E w.heap.size cnt c2) h := ⟨hleZ, fun _ _ => rfl, Nat.le_refl _, fun _ _ _ _ h _ => h⟩
    exact e1.trans (Ext.setTok (Nat.le_succ _) hob (f3 _) (.inl f2))
  refine ⟨_, { F with own := updO F.own w.heap.size (.tk h.nxt) }, _, _, _, by rw [exec_builtin, harr]; exact val_run h3, .inl rfl, x1, rfl, rfl, mt, .v _ _ (h4 _ (.tk h.nxt) x1.le (fun i x hi hx => ?_) ⟨?_, ?_⟩)⟩
  · show (updZ E w.heap.size cnt c2).fz w.heap.size i = some x
    simp only [updZ, if_true]; rw [if_pos hi]; exact hx
  · simp [updT, p, cnt]
  · omega

/-- append to a list that has no room, or of nothing: what may be appended is forgotten. -/
theorem app_full {o : Oper} {x y : RX} {sz bytes : Nat} {z : List V} {es ns : List (List V)} (ho : rop P o = some (.app x y sz bytes z)) (hx : rv gl tm x = some (.lst es (.ex es.length))) (hz : ∀ e ∈ es, e.length = sz) (hy : NewEs gl tm h y sz ns) (hlim : bytes * (es.length + ns.length) ≤ lim) :
    Does P gl nt tm h o (.v (.lst (es ++ ns.map (·.map V.clean1)) .unk)) h := by
  by_cases h0 : ns = []
  · subst h0
    have := app_none (nt := nt) ho hx hy
    intro E F w0 w tmps m hg r
    obtain ⟨E', F', w', n, v', a1, a2, a3, a4, a5, a6, a7⟩ := this E F w0 w tmps m hg r
    refine ⟨E', F', w', n, v', a1, a2, a3, a4, a5, a6, ?_⟩
    cases a7 with
    | v _ _ a7 => exact .v _ _ (by simpa [V.clean1] using a7.clean1)
  obtain ⟨dst, ty, pos, after, guard, args, argTypes, rfl, hxs, T⟩ := rop_app ho
  obtain ⟨vy, hvy⟩ := hy.val
  intro E F w0 w tmps m hg r
  obtain ⟨s', y', harr, rs, ry⟩ := two_args hg r hxs hx hvy
  obtain ⟨A, cap, rfl, hle, hc⟩ := lst_val rs
  have hck := hc _ rfl
  have hpos : 0 < ns.length := List.length_pos_iff.2 h0
  obtain ⟨c2, el, nc, h1, h2, h3, h4⟩ := app_row (ty := ty) m T rs hz hy hvy ry (by omega) hlim
  have md := m.drawn (w.drawn + 1)
  have hleZ := md.updZ_le ((es.length + ns.length) * sz) c2
  have mz := md.frozen ((es.length + ns.length) * sz) c2 el (0, 0) .fz (.inl rfl)
  have x1 : Ext E h (updZ E w.heap.size ((es.length + ns.length) * sz) c2) h := ⟨hleZ, fun _ _ => rfl, Nat.le_refl _, fun _ _ _ _ h _ => h⟩
  refine ⟨_, { F with own := updO F.own w.heap.size .fz }, _, _, _, by rw [exec_builtin, harr]; exact val_run h3, .inl rfl, x1, rfl, rfl, mz, .v _ _ (h4 _ .unk x1.le (fun i x hi hx => ?_) trivial)⟩
  show (updZ E w.heap.size _ c2).fz w.heap.size i = some x
  simp only [updZ, if_true]; rw [if_pos hi]; exact hx

/-- what is written behind a list, in its own row. -/
def updY (E : Env) (B off : Nat) (vs : List Value) : Env := { E with fz := fun k i => if k = B ∧ off ≤ i ∧ i < off + vs.length then vs[i - off]? else E.fz k i }

theorem MR.tokWrite {E : Env} {F : Fx} {w0 w : World} (m : MR E F h w0 w) {b n n2 : Nat} {p : Place} {vs' : List Value} (hb : h.ob b = some (.tok n)) (hp : E.tk b n = some p) (hlt : n < n2) (hle : vs'.length ≤ p.ext) (hone : ∀ v ∈ vs', v.oneCell' = true) :
    (storeCells ⟨p.blk, p.off, none⟩ vs').run P w = .ok () (w.setCells p.blk p.off vs') ∧
      MR (updT (updY E p.blk p.off vs') b n2 ⟨p.blk, p.off + vs'.length, p.ext - vs'.length⟩) F (h.put b (.tok n2)) w0 (w.setCells p.blk p.off vs') ∧ E.le (updY E p.blk p.off vs') := by
  obtain ⟨hown, hw0, ⟨c, el, lo, hi, h1, h2, h3⟩, hfr⟩ := m.tok b n p hb hp
  have hbn := m.nxt_of hb
  have hEb := m.toko b n hb
  have hgb : glim ≤ b := by
    rcases Nat.lt_or_ge b glim with g | g
    · obtain ⟨_, _, e⟩ := m.glb b _ g hb; cases e
    · exact g
  have hin : ∀ j, j < vs'.length → p.off + j < c.size := by intro j hj; omega
  have hrun := run_storeCells_cells (P := P) p.blk p.off vs' 0 w (by intro j hj; rw [cell_of h1]; have := hin j hj; simp; omega) (by intro j hj; exact frozen_of h1 h2 _ (by have := hin j hj; omega)) hone
  have t := Turn.setCells p.blk vs' w p.off
  have hw1 : (w.setCells p.blk p.off vs').heap[p.blk]? = some (.cells (writeAt c p.off vs') el (lo, hi)) := setCells_heap _ _ _ _ _ _ _ h1
  have hleY : E.le (updY E p.blk p.off vs') := by
    refine ⟨fun _ _ h => h, fun B i v hf => ?_, fun _ _ _ h => h⟩
    simp only [updY]
    rw [if_neg]
    · exact hf
    · rintro ⟨rfl, g1, g2⟩
      rw [hfr i g1] at hf; cases hf
  have mY : MR (updY E p.blk p.off vs') F (h.kill b) w0 (w.setCells p.blk p.off vs') := by
    have hk : ∀ k o, (h.kill b).ob k = some o → k ≠ b ∧ h.ob k = some o := by
      intro k o hk
      simp only [H.kill] at hk
      split at hk
      · cases hk
      · rename_i e; exact ⟨e, hk⟩
    refine ⟨Below.turn m.below t hw0, fun k hk' => ?_, m.glo, fun k o hk' ho => m.glb k o hk' (hk k o ho).2, m.gbl, fun B hB => by rw [t.size]; exact m.lto B hB, fun k o q hk' hq => ?_, fun k o q hg hk' hq => m.oOb k o q hg (hk k o hk').2 hq, fun B i v hf => ?_, fun B i v hf hB => ?_, fun k i q hk' hq => ?_, fun k i j hk' hj => m.tokn k i j (hk k _ hk').2 hj, fun k i hk' => m.toko k i (hk k _ hk').2, fun d q hq => ?_, fun B x hx => ?_⟩
    · obtain ⟨a1, a2, a3⟩ := m.fresh k hk'
      refine ⟨a1, ?_, a3⟩
      simp only [H.kill]; split
      · rfl
      · exact a2
    · exact ((m.obj k o q (hk k o hk').2 hq).mono hleY).world (t.other _ (m.obOwn (hk k o hk').2 hq hw0 (fun b' hb' => by rw [hown] at hb'; cases hb')))
    · simp only [updY] at hf
      split at hf
      · rename_i e
        obtain ⟨rfl, g1, g2⟩ := e
        refine ⟨_, el, (lo, hi), hw1, ?_⟩
        have := writeAt_in vs' c p.off (i - p.off) (by omega) (hin _ (by omega))
        rw [show p.off + (i - p.off) = i by omega] at this
        rw [this]; exact hf
      · rename_i e
        by_cases eB : B = p.blk
        · subst eB
          obtain ⟨c', el', q', g1, g2⟩ := m.fz _ i v hf
          rw [h1] at g1; cases g1
          have hi : i < p.off := by
            rcases Nat.lt_or_ge i p.off with g | g
            · exact g
            · rw [hfr i g] at hf; cases hf
          exact ⟨_, el, (lo, _), hw1, by rw [writeAt_out _ _ _ _ (.inl hi)]; exact g2⟩
        · rw [t.other B eB]; exact m.fz B i v hf
    · simp only [updY] at hf
      split at hf
      · rename_i e
        obtain ⟨rfl, _, _⟩ := e
        exact .inr (.inl ⟨b, hown⟩)
      · exact m.oFz B i v hf hB
    · obtain ⟨e, h2'⟩ := hk k _ hk'
      obtain ⟨a1, a2, a3, a4⟩ := m.tok k i q h2' hq
      have hne : q.blk ≠ p.blk := by intro z; rw [z, hown] at a1; cases a1; exact e rfl
      exact ⟨a1, a2, a3.world (t.other _ hne), fun j hj => by simp only [updY]; rw [if_neg (by intro z; exact hne z.1)]; exact a4 j hj⟩
    · obtain ⟨a1, a2, cs, a3, a4⟩ := m.loc d q hq
      have hne : q.blk ≠ p.blk := by intro z; rw [z, hown] at a1; cases a1
      exact ⟨a1, a2, cs, a3, (a4.mono hleY).world (t.other _ hne)⟩
    · obtain ⟨a1, a2⟩ := m.prot B x hx
      have hne : B ≠ p.blk := by rintro rfl; rw [hown] at a2; cases a2
      exact ⟨by rw [t.other _ hne]; exact a1, a2⟩
  refine ⟨hrun, ?_, hleY⟩
  refine mY.setTok (b := b) (n := n2) (h' := h.put b (.tok n2)) hbn hgb (Nat.le_refl _) (fun k => ?_) rfl hEb (fun i hi => m.tokn b n i hb (by omega)) hown hw0 ⟨_, el, lo, hi, hw1, fun i hi => h2 i (by rwa [writeAt_size] at hi), ?_⟩ (fun i hi => ?_)
  · simp only [H.put, H.kill]
    by_cases e : k = b
    · rw [if_pos e, if_pos e]
    · rw [if_neg e, if_neg e, if_neg e]
  · rw [writeAt_size]; simp only []; omega
  · simp only [updY]
    rw [if_neg (by intro z; have := z.2.2; simp only [] at hi; omega)]
    exact hfr i (by simp only [] at hi; omega)

/-- append to a list that may be appended to. -/
theorem app_tk {o : Oper} {x y : RX} {sz bytes id : Nat} {z : List V} {es ns : List (List V)} (ho : rop P o = some (.app x y sz bytes z)) (hx : rv gl tm x = some (.lst es (.tk id))) (hid : h.ob id = some (.tok es.length)) (hz : ∀ e ∈ es, e.length = sz) (hy : NewEs gl tm h y sz ns) (hlim : bytes * (es.length + ns.length) ≤ lim) :
    Does P gl nt tm h o (.v (.lst (es ++ ns.map (·.map V.clean1)) (.tk id))) (h.put id (.tok (es.length + ns.length))) := by
  by_cases h0 : ns = []
  · subst h0
    have := app_none (nt := nt) ho hx hy
    have e1 : h.put id (.tok (es.length + ([] : List (List V)).length)) = h := by
      obtain ⟨nxt, ob, lc⟩ := h
      simp only [H.put]
      congr 1
      funext k
      split
      · rename_i e; subst e; exact hid.symm
      · rfl
    rw [e1]; simpa using this
  have hpos : 0 < ns.length := List.length_pos_iff.2 h0
  obtain ⟨dst, ty, pos, after, guard, args, argTypes, rfl, hxs, T⟩ := rop_app ho
  obtain ⟨vy, hvy⟩ := hy.val
  intro E F w0 w tmps m hg r
  obtain ⟨s', y', harr, rs, ry⟩ := two_args hg r hxs hx hvy
  obtain ⟨A, cap, rfl, hle, hc⟩ := lst_val rs
  by_cases hroom : es.length + ns.length ≤ cap
  · -- in its place
    cases rs with
    | lst0 _ _ _ hh =>
      have : cap = 0 := hh
      simp at hroom; omega
    | lst e es' _ blk off n _ zz hf hn hle' hr =>
      have hz0 : zz = sz := by rw [← (hf.get 0 e rfl).1]; exact hz e (by simp)
      subst hz0
      have hr' : E.tk id (es'.length + 1) = some ⟨blk, off + (es'.length + 1) * zz, (cap - (es'.length + 1)) * zz⟩ := hr
      obtain ⟨hl, cn, hcn, rn, hnall⟩ := hy.sound (P := P) m hvy ry
      have lcn : cn.toList.length = ns.length * zz := by rw [← rn.length, flat_len hy.len]
      have hone : ∀ v ∈ cn.toList, v.oneCell' = true := by
        intro v hmem
        obtain ⟨k, hk⟩ := List.mem_iff_getElem?.1 hmem
        have hklt : k < ns.flatten.length := by rw [rn.length]; exact (List.getElem?_eq_some_iff.1 hk).1
        obtain ⟨v', hv', ha⟩ := rn.get k ns.flatten[k] (by simp)
        rw [hk] at hv'; cases hv'
        exact ha.oneCell ((List.all_eq_true.1 hnall) _ (List.getElem_mem _))
      have hlist : (e :: es').length = es'.length + 1 := rfl
      have hext : cn.toList.length ≤ (cap - (es'.length + 1)) * zz := by
        rw [lcn]; exact Nat.mul_le_mul_right _ (by rw [hlist] at hroom; omega)
      obtain ⟨q1, q2, q3⟩ := m.tokWrite (P := P) (n2 := (e :: es').length + ns.length) (p := ⟨blk, off + (es'.length + 1) * zz, (cap - (es'.length + 1)) * zz⟩) hid hr' (by omega) hext hone
      have hrun := run_append_stay (ty := ty) T (base := some ⟨blk, off, none⟩) (sl := (e :: es').length) (n := ns.length) (cap := cap) hl hcn hroom (by show (storeCells (Addr.add _ _) _).run P w = _; rw [add_zero]; exact q1)
      have hEid := m.toko id _ hid
      have htk0 : E.tk id ((e :: es').length + ns.length) = none := m.tokn id _ _ hid (by omega)
      have x1 : Ext E h (updT (updY E blk (off + (es'.length + 1) * zz) cn.toList) id ((e :: es').length + ns.length) ⟨blk, off + (es'.length + 1) * zz + cn.toList.length, (cap - (es'.length + 1)) * zz - cn.toList.length⟩) (h.put id (.tok ((e :: es').length + ns.length))) := by
        have e1 : Ext E h (updY E blk (off + (es'.length + 1) * zz) cn.toList) h := ⟨q3, fun _ _ => rfl, Nat.le_refl _, fun _ _ _ _ h _ => h⟩
        exact e1.trans (Ext.setTok (Nat.le_refl _) (fun k => rfl) htk0 (.inr ⟨_, hid⟩))
      refine ⟨_, F, _, _, _, by rw [exec_builtin, harr]; exact val_run hrun, .inl rfl, x1, rfl, rfl, q2, .v _ _ ?_⟩
      refine .lst e (es' ++ ns.map (·.map V.clean1)) (.tk id) blk off _ cap zz ?_ (by simp; omega) hroom ?_
      · have hfa := (hf.mono x1.le).append (fs := ns.map (·.map V.clean1)) (FZs.of_flat (fun e he => by obtain ⟨e0, h0', rfl⟩ := List.mem_map.1 he; simpa using hy.len e0 h0') (FZ.of_get fun i v hv => by
          rw [flatten_clean] at hv
          have hv2 := (rn.mono x1.le).clean1.get i v hv
          obtain ⟨v', a, bb⟩ := hv2
          have hi : i < cn.toList.length := (List.getElem?_eq_some_iff.1 a).1
          refine ⟨List.all_eq_true.1 (all_clean hnall) v (List.mem_of_getElem? hv), v', ?_, bb⟩
          show (updY E blk (off + (es'.length + 1) * zz) cn.toList).fz blk _ = some v'
          simp only [updY]
          rw [if_pos ⟨trivial, by rw [hlist]; omega, by rw [hlist]; omega⟩]
          rw [show off + (e :: es').length * zz + i - (off + (es'.length + 1) * zz) = i by rw [hlist]; omega]
          exact a))
        simpa using hfa
      · show (updT _ id _ _).tk id _ = _
        simp only [updT]
        rw [if_pos ⟨trivial, trivial⟩, lcn, hlist]
        simp only [Nat.add_mul, Nat.sub_mul]
        congr 2
        · omega
        · omega
  · -- a new row
    obtain ⟨c2, el, nc, h1, h2, h3, h4⟩ := app_row (ty := ty) m T rs hz hy hvy ry (by omega) hlim
    have hEid := m.toko id _ hid
    have md := m.drawn (w.drawn + 1)
    let cnt := (es.length + ns.length) * sz
    have hleZ := md.updZ_le cnt c2
    have mz := md.frozen cnt c2 el (0, 0) (.tk id) (.inr ⟨_, rfl⟩)
    let p : Place := ⟨w.heap.size, cnt, (nc - (es.length + ns.length)) * sz⟩
    have hob : ∀ k, (h.put id (.tok (es.length + ns.length))).ob k = if k = id then some (.tok (es.length + ns.length)) else h.ob k := fun k => rfl
    have hgb : glim ≤ id := by
      rcases Nat.lt_or_ge id glim with g | g
      · obtain ⟨_, _, e⟩ := m.glb id _ g hid; cases e
      · exact g
    have htk0 : ∀ i, es.length + ns.length ≤ i → E.tk id i = none := fun i hi => m.tokn id _ _ hid (by omega)
    have mt := mz.setTok (p := p) (b := id) (n := es.length + ns.length) (h' := h.put id (.tok (es.length + ns.length))) (m.nxt_of hid) hgb (Nat.le_refl _) hob rfl hEid htk0 (by simp [p, updO]) m.below.size
      ⟨c2, el, 0, 0, by simp [p], by omega, by simp only [p, cnt]; rw [h2, ← Nat.add_mul]; exact Nat.mul_le_mul_right _ (by omega)⟩ (fun i hi => by
        simp only [updZ, p, if_true]; rw [if_neg (by simp only [p] at hi; omega)])
    have x1 : Ext E h (updT (updZ E w.heap.size cnt c2) id (es.length + ns.length) p) (h.put id (.tok (es.length + ns.length))) := by
      have e1 : Ext E h (updZ E w.heap.size cnt c2) h := ⟨hleZ, fun _ _ => rfl, Nat.le_refl _, fun _ _ _ _ h _ => h⟩
      exact e1.trans (Ext.setTok (Nat.le_refl _) hob (htk0 _ (Nat.le_refl _)) (.inr ⟨_, hid⟩))
    refine ⟨_, { F with own := updO F.own w.heap.size (.tk id) }, _, _, _, by rw [exec_builtin, harr]; exact val_run h3, .inl rfl, x1, rfl, rfl, mt, .v _ _ (h4 _ (.tk id) x1.le (fun i x hi hx => ?_) ⟨?_, ?_⟩)⟩
    · show (updZ E w.heap.size cnt c2).fz w.heap.size i = some x
      simp only [updZ, if_true]; rw [if_pos hi]; exact hx
    · simp [updT, p, cnt]
    · omega
end
end Go.VM
