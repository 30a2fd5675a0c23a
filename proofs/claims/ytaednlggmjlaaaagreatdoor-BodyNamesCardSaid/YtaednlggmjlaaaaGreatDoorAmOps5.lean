/- The abstract machine: stores, append and other changes. -/
import Derived.Test.YtaednlggmjlaaaaGreatDoorAmOps4
set_option linter.unusedVariables false
set_option linter.unusedSimpArgs false
namespace Go.AM
noncomputable section
open Go.RowKit
variable {P : Program}

theorem store_sound {E : Env} {gl : List Nat} {nt : Nat} {tm : T V} {tmps : Array Value} {h h' : H} {w0 w : World} (m : MR E h w0 w) (hg : GL E gl) (r : TR E nt tm tmps) {o : Oper} (hs : astore P gl tm h o = some h') :
    ∃ w', (execOp (evT tmps) o).run P w = .ok .skip w' ∧ MR E h' w0 w' ∧ Ext E h E h' := by
  obtain ⟨dst, op, ty, pos, after, guard⟩ := o
  cases op with
  | store t a x =>
    simp only [astore] at hs
    split at hs
    · rename_i b o v n ha hx hn
      split at hs
      · rename_i hlen
        have ra := ev_sound hg r ha
        have rx := (ev_sound hg r hx).cells
        cases hcv : evT tmps a <;> rw [hcv] at ra <;> cases ra
        rename_i p hE
        obtain ⟨h1, h2, h3⟩ := wrN_sound (P := P) m hs hE rx
        refine ⟨_, ?_, h2, h3⟩
        have hsz : (evT tmps x).cells.size = n := by rw [← hlen, rx.length]; simp
        have e1 : Sem.run P (Instr.storeAt t (evT tmps a) (evT tmps x)) w = .ok () (w.setCells p.blk (p.off + o) (evT tmps x).cells.toList) := by
          rw [hcv]
          simp only [Instr.storeAt, Instr.sureAddr, Sem.run_bind, Sem.run_pure, Result.andThen_ok, storeVar, run_szT hn, hsz, ne_eq, not_true, if_false, h1]
        simp only [execOp, Sem.run_bind, e1, Result.andThen_ok, Sem.run_pure]
      · cases hs
    · cases hs
  | _ => simp [astore] at hs

/-- an object that had no block gets one that is there already, and is written. -/
theorem re_place {E : Env} {h : H} {w0 w w1 : World} (m : MR E h w0 w) {b : Nat} {p : Place} (hb : b < h.nxt) (hE : E b = none) (hg : glim ≤ b) (hlt : p.blk < w.heap.size) (hown : w0.heap.size ≤ p.blk)
    (hfree : ∀ k o q, h.get k = some o → E k = some q → q.blk ≠ p.blk) (hother : ∀ k, k ≠ p.blk → w1.heap[k]? = w.heap[k]?) (hsize : w1.heap.size = w.heap.size) (hos : w1.os = w.os) (htape : w1.tape = w.tape) (hout : w1.output = w.output)
    (hobj : ∀ o, h.get b = some o → ObjR (upd E b p) o p w1) : MR (upd E b p) h w0 w1 := by
  have hle := upd_le (p := p) hE
  have hup : ∀ k q, upd E b p k = some q → k ≠ b → E k = some q := by
    intro k q hk hne; unfold upd at hk; rwa [if_neg hne] at hk
  have hub : ∀ q, upd E b p b = some q → q = p := by intro q hq; unfold upd at hq; rw [if_pos rfl] at hq; exact (Option.some.inj hq).symm
  refine ⟨⟨hos.trans m.below.os, htape.trans m.below.tape, hout.trans m.below.output, by rw [hsize]; exact m.below.size, fun k hk => ?_⟩, fun k hk => ?_, m.glo, m.lim, fun k o q hk hq => ?_, m.glb, fun k q hk hq => ?_, fun k q hq => ?_, fun k k' o o' q q' hne hk hk' hq hq' => ?_⟩
  · rw [hother k (by omega)]; exact m.below.block k hk
  · refine ⟨?_, (m.fresh k hk).2⟩
    unfold upd; rw [if_neg (by omega)]; exact (m.fresh k hk).1
  · by_cases e : k = b
    · subst e; rw [hub q hq]; exact hobj o hk
    · have hq' := hup k q hq e
      exact ((m.obj k o q hk hq').mono hle).world (hother _ (hfree k o q hk hq'))
  · by_cases e : k = b
    · subst e; rw [hub q hq]; exact hown
    · exact m.own k q hk (hup k q hq e)
  · rw [hsize]
    by_cases e : k = b
    · subst e; rw [hub q hq]; exact hlt
    · exact m.lt k q (hup k q hq e)
  · by_cases e : k = b
    · by_cases e' : k' = b
      · exact absurd (e.trans e'.symm) hne
      · subst e; rw [hub q hq]; exact (hfree k' o' q' hk' (hup k' q' hq' e')).symm
    · by_cases e' : k' = b
      · subst e'; rw [hub q' hq']; exact hfree k o q hk (hup k q hq e)
      · exact m.apart k k' o o' q q' hne hk hk' (hup k q hq e) (hup k' q' hq' e')

/-! ### append -/
theorem lenV_sound {E : Env} {x : V} {x' : Value} {n : Nat} (h : lenV x = some n) (r : AR E x x') (w : World) : (Builtin.lenOf x').run P w = .ok n w := by
  cases x <;> simp [lenV] at h <;> subst h
  · rename_i s
    cases r with | str _ y e =>
    have : y.size = s.length := by rw [← e, List.length_map, Array.length_toList]; rfl
    simp [Builtin.lenOf, this]
  · cases r; simp [Builtin.lenOf]
  · cases r <;> simp [Builtin.lenOf]

theorem bytes_cells {E : Env} {s : List Nat} {y : ByteArray} (e : y.data.toList.map UInt8.toNat = s) : ARs E (s.map fun n : Nat => V.int .u8 n) ((y.extract 0 s.length).data.map fun b => Value.int .u8 b.toNat).toList := by
  have hs : y.data.size = s.length := by rw [← e]; simp
  have he : (y.extract 0 s.length).data.toList = y.data.toList := by
    rw [ByteArray.data_extract, Array.toList_extract]; simp [List.extract]; rw [List.take_of_length_le (by simp [hs])]
  rw [Array.toList_map, he, ← e]
  generalize y.data.toList = l
  induction l with
  | nil => exact .nil
  | cons a l ih => exact .cons _ _ _ _ (.int _ _) ih

theorem cellsOf_sound {E : Env} {h : H} {w0 w : World} (m : MR E h w0 w) {x : V} {x' : Value} {sz n : Nat} {l : List V} (hl : cellsOf h sz x = some l) (hn : lenV x = some n) (r : AR E x x') :
    ∃ c : Array Value, (Builtin.firstCells sz n x').run P w = .ok c w ∧ ARs E l c.toList := by
  cases x <;> simp [cellsOf, lenV] at hl hn
  · subst hn; subst hl
    cases r with | str _ y e => exact ⟨_, rfl, bytes_cells e⟩
  · subst hl; cases r; exact ⟨#[], rfl, .nil⟩
  · rename_i b o len c
    subst hn
    cases r with
    | sl _ _ _ p _ hE _ => obtain ⟨l', h1, h2, _⟩ := rdN_sound (P := P) m hE hl; exact ⟨l'.toArray, h1, by simpa using h2⟩
    | slo _ _ _ z p _ hE _ _ => obtain ⟨l', h1, h2, _⟩ := rdN_sound (P := P) m hE hl; exact ⟨l'.toArray, h1, by simpa using h2⟩
    | sl0 _ _ _ a hq p hE hz =>
      have hl0 : l = [] := by
        unfold H.rdN at hl
        split at hl
        · split at hl
          · cases hl; simp
          · cases hl
        · cases hl
      subst hl0
      refine ⟨#[], ?_, .nil⟩
      simp [Builtin.firstCells, loadCells, loadCellsFrom]

theorem growBy_le : ∀ (r c nl : Nat), 256 ≤ c → Builtin.growBy nl r c ≤ c * 2 ^ r
  | 0, c, nl, h => by simp [Builtin.growBy]
  | r + 1, c, nl, h => by
    simp only [Builtin.growBy]
    split
    · exact Nat.le_mul_of_pos_right _ (Nat.two_pow_pos _)
    · refine Nat.le_trans (growBy_le r _ nl (by omega)) ?_
      rw [Nat.pow_succ, Nat.mul_comm (2 ^ r) 2, ← Nat.mul_assoc]
      exact Nat.mul_le_mul_right _ (by omega)

theorem nextcap_le {need cap : Nat} (h : cap < need) : Builtin.nextslicecap need cap ≤ 16 * need := by
  unfold Builtin.nextslicecap
  split
  · omega
  · split
    · omega
    · have := growBy_le 4 cap need (by omega); omega

theorem notInt {tx : TypeDesc} (h : ∀ k, tx ≠ .int k) : (tx matches .int _) = false := by cases tx <;> first | rfl | exact absurd rfl (h _)

/-- the model makes a new row for what is appended to. -/
theorem append_new {E : Env} {h h' : H} {w0 w : World} (m : MR E h w0 w) {argTypes : Array TypeId} {ty : TypeId} {st el : TypeId} {tx : TypeDesc} {i : TypeInfo} {z0 : V} {sl n b : Nat} {old new : List V} {s' x' : Value} {base : Option Addr} {cap : Nat}
    (h1 : argTypes[0]? = some st) (hu : P.underlying st = some (.slice el)) (h2 : (argTypes[1]?).bind P.underlying = some tx) (htx : ∀ k, tx ≠ .int k) (hi : P.info? el = some i) (hz : zeroT P el = some z0) (hzl : z0.cells.length = i.size)
    (hs' : s' = .slice base sl cap) (hlx : (Builtin.lenOf x').run P w = .ok n w) (hcap : cap < sl + n) (hb0 : 0 < i.bytes) (hs0 : 0 < i.size) (hbytes : i.bytes * (sl + n) ≤ lim)
    {co cn : Array Value} (hold : (Builtin.firstCells i.size sl s').run P { w with drawn := w.drawn + 1 } = .ok co { w with drawn := w.drawn + 1 }) (hnew : (Builtin.firstCells i.size n x').run P { w with drawn := w.drawn + 1 } = .ok cn { w with drawn := w.drawn + 1 })
    (ro : ARs E old co.toList) (rn : ARs E new cn.toList) (lo : old.length = sl * i.size) (ln : new.length = n * i.size) (ao : old.all V.isCell = true) (an : new.all V.isCell = true)
    (hn : h.new (.cells true (old ++ new)) = some (b, h')) :
    ∃ v' w' E', (Builtin.append_ argTypes ty #[s', x']).run P w = .ok v' w' ∧ Ext E h E' h' ∧ MR E' h' w0 w' ∧ AR E' (.sl b 0 (sl + n) (.op i.size)) v' := by
  subst hs'
  obtain ⟨m1, x1, hEb, hget, hlt, hgb, hbn⟩ := ghost_new m hn
  obtain ⟨z', hz', rz⟩ := run_zeroT E hz { w with drawn := w.drawn + 1 }
  let q := Question.appendCap (sl + n) cap el
  let nc : Nat := q.cut (w.tape w.drawn q)
  have hnc : sl + n ≤ nc := Nat.le_add_right _ _
  obtain ⟨xt, hxt, hut⟩ : ∃ xt, argTypes[1]? = some xt ∧ P.underlying xt = some tx := by
    cases hx : argTypes[1]? with
    | none => rw [hx] at h2; cases h2
    | some xt => rw [hx] at h2; exact ⟨xt, rfl, h2⟩
  let rest := Builtin.zeroCells z'.cells (nc - (sl + n))
  have hzsz : z'.cells.size = i.size := by have := rz.cells.length; simp at this; omega
  have hrest : rest.size = (nc - (sl + n)) * i.size := by simp [rest, Builtin.zeroCells, hzsz]
  have hco : co.size = sl * i.size := by have := ro.length; simp at this; omega
  have hcn : cn.size = n * i.size := by have := rn.length; simp at this; omega
  have htot : (co ++ cn ++ rest).size = nc * i.size := by
    simp only [Array.size_append, hco, hcn, hrest]
    rw [← Nat.add_mul, ← Nat.add_mul]; congr 1; omega
  let cob : Go.Obj := .cells (co ++ cn ++ rest) el (0, 0)
  let p : Place := ⟨w.heap.size, 0, nc * i.size⟩
  have hrun : (Builtin.append_ argTypes ty #[.slice base sl cap, x']).run P w = .ok (.slice (some ⟨w.heap.size, 0, none⟩) (sl + n) nc) { w with heap := w.heap.push cob, drawn := w.drawn + 1 } := by
    have hzeros := notInt htx
    have hnot : ¬ (sl + n ≤ cap) := by omega
    have hmax : ¬ (((sl + n : Nat) : Int) > IntKind.i64.max ∧ (false = true ∨ i.bytes = 0)) := by
      rintro ⟨_, g | g⟩
      · cases g
      · omega
    have hneed : sl + n ≤ lim := Nat.le_trans (Nat.le_mul_of_pos_left _ hb0) hbytes
    have hncap : ¬ (Builtin.nextslicecap (sl + n) cap * i.bytes > 2 ^ 48) := by
      have g1 := nextcap_le hcap
      have g2 : Builtin.nextslicecap (sl + n) cap * i.bytes ≤ 16 * (sl + n) * i.bytes := Nat.mul_le_mul_right _ g1
      have g3 : 16 * (sl + n) * i.bytes = 16 * (i.bytes * (sl + n)) := by rw [Nat.mul_assoc, Nat.mul_comm (sl + n)]
      unfold lim at hbytes
      omega
    have hsz : szT P el = some i.size := by simp [szT, hi]
    have hq : q.forced = false := rfl
    simp only [Builtin.append_, h1, hxt]
    simp only [List.getElem?_toArray, List.getElem?_cons_zero, List.getElem?_cons_succ, Sem.run_bind, run_underlying hu, Result.andThen_ok, run_szT hsz, run_underlying hut, Sem.run_pure, hzeros, Bool.false_eq_true, if_false, hlx, if_neg hnot, run_info hi]
    have hmax' : ¬ (((sl + n : Nat) : Int) > IntKind.i64.max ∧ (False ∨ i.bytes = 0)) := by simpa using hmax
    have hdr : ({ w with drawn := w.drawn + 1 } : World) = { w with drawn := w.drawn + 1 } := rfl
    simp only [Sem.run_ite, if_neg hmax', Sem.run_bind, run_info hi, Result.andThen_ok, if_neg hncap, run_choose, show (Question.appendCap (sl + n) cap el).forced = false from rfl, Bool.false_eq_true, if_false, run_askRoom, hold, Bool.not_false, if_true, hnew, hz', newRow, run_newObj, Sem.run_pure]
    rfl
  have hle := upd_le (p := p) hEb
  have e1 : upd E b p b = some p := by unfold upd; rw [if_pos rfl]
  refine ⟨_, _, upd E b p, hrun, ?_, ?_, ?_⟩
  · refine ⟨x1.le.trans hle, fun k hk => ?_, x1.nxt, x1.ghost⟩
    unfold upd; rw [if_neg (by omega)]
  · have := place_sound (m1.drawn (w.drawn + 1)) (p := p) hlt hEb hgb cob rfl (fun o ho => by
      rw [hget] at ho; cases ho
      have rr : ARs (upd E b p) (old ++ new) (co ++ cn).toList := by rw [Array.toList_append]; exact (ro.append rn).mono hle
      have hll : (old ++ new).length = (sl + n) * i.size := by simp [lo, ln, Nat.add_mul]
      exact cells_obj (w := { w with drawn := w.drawn + 1 }) rr (by rw [List.all_append, ao, an]; rfl) true el (nc * i.size) (by rw [hll]; exact Nat.mul_le_mul_right _ hnc) _ (by rw [htot]; exact Nat.le_refl _) (fun k hk => by
        rw [Array.getElem?_append_left]
        rw [hll] at hk
        simp only [Array.size_append, hco, hcn]
        rw [← Nat.add_mul]; exact hk) 0 0 (by omega))
    exact this
  · exact .slo b 0 (sl + n) i.size p nc e1 (by simp [p]) hnc

set_option maxHeartbeats 1000000 in
theorem append_sound {E : Env} {h h' : H} {w0 w : World} (m : MR E h w0 w) {argTypes : Array TypeId} {ty : TypeId} {s x v : V} {s' x' : Value} (ha : aappend P h argTypes s x = some (v, h')) (rs : AR E s s') (rx : AR E x x') :
    ∃ v' w' E', (Builtin.append_ argTypes ty #[s', x']).run P w = .ok v' w' ∧ Ext E h E' h' ∧ MR E' h' w0 w' ∧ AR E' v v' := by
  unfold aappend at ha
  split at ha
  · rename_i el tx hu0 h2
    obtain ⟨st, h1, hu⟩ : ∃ st, argTypes[0]? = some st ∧ P.underlying st = some (.slice el) := by
      cases hx : argTypes[0]? with
      | none => rw [hx] at hu0; cases hu0
      | some st => rw [hx] at hu0; exact ⟨st, rfl, hu0⟩
    obtain ⟨xt, hxt, hut⟩ : ∃ xt, argTypes[1]? = some xt ∧ P.underlying xt = some tx := by
      cases hx : argTypes[1]? with
      | none => rw [hx] at h2; cases h2
      | some xt => rw [hx] at h2; exact ⟨xt, rfl, h2⟩
    split at ha
    · cases ha
    · rename_i htx
      have htx' : ∀ k, tx ≠ .int k := fun k e => htx k e
      have hzeros := notInt htx'
      split at ha
      · rename_i i sl n z0 hi hsl hn hz
        have hsz : szT P el = some i.size := by simp [szT, hi]
        split at ha
        · cases ha
        · rename_i new hnew
          split at ha
          · rename_i hc
            obtain ⟨c1, c2, c3, c4, c5, hnl⟩ := hc
            have hlx := lenV_sound (P := P) hn rx w
            have md := m.drawn (w.drawn + 1)
            obtain ⟨cn, hcn, rn⟩ := cellsOf_sound (P := P) m hnew hn rx
            obtain ⟨cn', hcn', rn'⟩ := cellsOf_sound (P := P) md hnew hn rx
            -- the run that stays in its place
            have stay : ∀ (base : Option Addr) (cap : Nat) (w' : World), s' = .slice base sl cap → sl + n ≤ cap → (match base with | some a => (storeCells (a.add (sl * i.size)) cn.toList).run P w = .ok () w' | none => w' = w) →
                (Builtin.append_ argTypes ty #[s', x']).run P w = .ok (.slice base (sl + n) cap) w' := by
              intro base cap w' e hle hst
              subst e
              simp only [Builtin.append_, h1, hxt]
              simp only [List.getElem?_toArray, List.getElem?_cons_zero, List.getElem?_cons_succ, Sem.run_bind, run_underlying hu, Result.andThen_ok, run_szT hsz, run_underlying hut, Sem.run_pure, hzeros, Bool.false_eq_true, if_false, hlx, if_pos hle, Bool.not_false, if_true, hcn]
              cases base with
              | none => simp at hst; subst hst; rfl
              | some a => simp only [Sem.run_bind, hst, Result.andThen_ok]; rfl
            have zero : n = 0 → cn.toList = [] := by
              rintro rfl
              have := rn.length
              rw [hnl, Nat.zero_mul] at this
              exact List.eq_nil_of_length_eq_zero this.symm
            unfold aappend2 at ha
            split at ha
            · cases rs
              have e0 : sl = 0 := by simpa [lenV] using hsl.symm
              subst e0
              split at ha
              · cases ha
                exact ⟨_, w, E, stay none 0 w rfl (Nat.le_refl _) rfl, Ext.refl E h, m, .nils⟩
              · rename_i hn0
                obtain ⟨b, hnew', rfl⟩ := map_new (f := fun b => V.sl b 0 n (.op i.size)) ha
                have := append_new (P := P) m (argTypes := argTypes) (ty := ty) (s' := .slice none 0 0) (x' := x') (sl := 0) (n := n) (old := []) (new := new) (cap := 0) h1 hu h2 htx' hi hz c5 rfl hlx (by have := Nat.pos_of_ne_zero hn0; omega) c2 c1 c3 (co := #[]) (cn := cn') rfl hcn' .nil rn' (by simp) hnl rfl c4 hnew'
                simpa using this
            · rename_i b o len cap
              have e0 : sl = len := by simpa [lenV] using hsl.symm
              subst e0
              split at ha
              · cases ha
                have := zero rfl
                cases rs with
                | sl _ _ _ p c hE hnc =>
                  exact ⟨_, w, E, stay _ _ w rfl hnc (by rw [this]; rfl), Ext.refl E h, m, .sl _ _ _ p c hE hnc⟩
                | slo _ _ _ z p c hE hext hnc =>
                  exact ⟨_, w, E, stay _ _ w rfl hnc (by rw [this]; rfl), Ext.refl E h, m, .slo _ _ _ z p c hE hext hnc⟩
                | sl0 _ _ _ a hq p hE hzz =>
                  exact ⟨_, w, E, stay _ _ w rfl (Nat.le_refl _) (by rw [this]; rfl), Ext.refl E h, m, .sl0 _ _ _ a hq p hE hzz⟩
              · rename_i hn0
                have hn0' : 0 < n := Nat.pos_of_ne_zero hn0
                split at ha
                · rename_i opn cs hb
                  split at ha
                  · rename_i hfit
                    simp only [Bool.and_eq_true] at hfit
                    obtain ⟨hf1, hf2⟩ := hfit
                    have hf1' := Nat.le_of_ble_eq_true hf1
                    cases hw : h.wrN b (o + sl * i.size) new with
                    | none => rw [hw] at ha; cases ha
                    | some h2' =>
                      rw [hw] at ha; cases ha
                      have go : ∀ (p : Place) (c : Nat), E b = some p → s' = .slice (some ⟨p.blk, p.off + o, none⟩) sl c → sl + n ≤ c → (∀ E', E' b = some p → AR E' (.sl b o (sl + n) cap) (.slice (some ⟨p.blk, p.off + o, none⟩) (sl + n) c)) →
                          ∃ v' w' E', (Builtin.append_ argTypes ty #[s', x']).run P w = .ok v' w' ∧ Ext E h E' h' ∧ MR E' h' w0 w' ∧ AR E' (.sl b o (sl + n) cap) v' := by
                        intro p c hE e hle hr
                        obtain ⟨q1, q2, q3⟩ := wrN_sound (P := P) m hw hE rn
                        refine ⟨_, _, E, stay _ c _ e hle ?_, q3, q2, hr E hE⟩
                        simp only [add_zero]
                        rw [Nat.add_assoc]; exact q1
                      cases rs with
                      | sl _ _ _ p c hE hnc =>
                        have : sl + n ≤ c := Nat.le_of_ble_eq_true hf2
                        exact go p c hE rfl this fun E' hE' => .sl _ _ _ p c hE' this
                      | slo _ _ _ z p c hE hext hnc =>
                        have hzs : z = i.size := Nat.eq_of_beq_eq_true hf2
                        subst hzs
                        obtain ⟨cc, el', lo', hi', g1, g2, g3, g4, g5⟩ := m.obj b _ p hb hE
                        have : sl + n ≤ c := by
                          have g6 : (sl + n) * i.size ≤ c * i.size := by omega
                          exact Nat.le_of_mul_le_mul_right g6 c1
                        exact go p c hE rfl this fun E' hE' => .slo _ _ _ _ p c hE' hext this
                      | sl0 _ _ _ a hq p hE hzz =>
                        exfalso
                        cases cap with
                        | ex k => have := hq k rfl; subst this; have := Nat.le_of_ble_eq_true hf2; omega
                        | op z =>
                          obtain ⟨cc, el', lo', hi', g1, g2, g3, g4, g5⟩ := m.obj b _ p hb hE
                          have := hzz z rfl
                          have : 0 < (0 + n) * i.size := Nat.mul_pos (by omega) c1
                          omega
                  · rename_i hfit
                    split at ha
                    · rename_i old c hold
                      split at ha
                      · rename_i hlt
                        obtain ⟨b', hnew', rfl⟩ := map_new (f := fun b => V.sl b 0 (sl + n) (.op i.size)) ha
                        have go : ∀ (base : Option Addr) (cap' : Nat) (co : Array Value), s' = .slice base sl cap' → cap' < sl + n → (Builtin.firstCells i.size sl s').run P { w with drawn := w.drawn + 1 } = .ok co { w with drawn := w.drawn + 1 } → ARs E old co.toList → old.length = sl * i.size → old.all V.isCell = true →
                            ∃ v' w' E', (Builtin.append_ argTypes ty #[s', x']).run P w = .ok v' w' ∧ Ext E h E' h' ∧ MR E' h' w0 w' ∧ AR E' (.sl b' 0 (sl + n) (.op i.size)) v' := by
                          intro base cap' co e hl hco ro lo ao
                          exact append_new (P := P) m h1 hu h2 htx' hi hz c5 e hlx hl c2 c1 c3 hco hcn' ro rn' lo hnl ao c4 hnew'
                        cases rs with
                        | sl _ _ _ p _ hE hnc =>
                          obtain ⟨l', k1, k2, k3, k4, k5⟩ := rdN_sound (P := P) md hE hold
                          exact go _ _ l'.toArray rfl hlt k1 (by simpa using k2) k3 k4
                        | sl0 _ _ _ a hq p hE hzz =>
                          have e0 : old = [] := by
                            obtain ⟨l', k1, k2, k3, k4, k5⟩ := rdN_sound (P := P) md hE hold
                            exact List.eq_nil_of_length_eq_zero (by rw [k3]; simp)
                          subst e0
                          exact go _ _ #[] rfl (by omega) (by simp [Builtin.firstCells, loadCells, loadCellsFrom]) .nil (by simp) rfl
                      · cases ha
                    · rename_i old z hold
                      split at ha
                      · rename_i hzg
                        obtain ⟨rfl, hgb⟩ := hzg
                        obtain ⟨b', hnew', rfl⟩ := map_new (f := fun b => V.sl b 0 (sl + n) (.op i.size)) ha
                        have go : ∀ (p : Place) (base : Option Addr) (cap' : Nat) (co : Array Value), E b = some p → s' = .slice base sl cap' → cap' < sl + n → (Builtin.firstCells i.size sl s').run P { w with drawn := w.drawn + 1 } = .ok co { w with drawn := w.drawn + 1 } → ARs E old co.toList → old.length = sl * i.size → old.all V.isCell = true →
                            ∃ v' w' E', (Builtin.append_ argTypes ty #[s', x']).run P w = .ok v' w' ∧ Ext E h E' h' ∧ MR E' h' w0 w' ∧ AR E' (.sl b' 0 (sl + n) (.op i.size)) v' := by
                          intro p base cap' co hE e hl hco ro lo ao
                          obtain ⟨mk, xk⟩ := kill_sound m hE
                          obtain ⟨v', w', E', j1, j2, j3, j4⟩ := append_new (P := P) mk h1 hu h2 htx' hi hz c5 e hlx hl c2 c1 c3 hco hcn' ro rn' lo hnl ao c4 hnew'
                          exact ⟨v', w', E', j1, xk.trans j2, j3, j4⟩
                        cases rs with
                        | slo _ _ _ _ p c hE hext hnc =>
                          obtain ⟨l', k1, k2, k3, k4, k5⟩ := rdN_sound (P := P) md hE hold
                          by_cases hle : sl + n ≤ c
                          · obtain ⟨ca, el', lo', hi', g1, g2, g3, g4, g5⟩ := m.obj b _ p hb hE
                            have hmul : (sl + n) * i.size ≤ c * i.size := Nat.mul_le_mul_right _ hle
                            rw [Nat.add_mul] at hmul
                            have hcl : cn.toList.length = n * i.size := by rw [← rn.length, hnl]
                            have hin : ∀ j, j < cn.toList.length → p.off + (o + sl * i.size) + j < ca.size := by intro j hj; omega
                            have hone : ∀ v ∈ cn.toList, v.oneCell' = true := by
                              intro v hmem
                              obtain ⟨k, hk⟩ := List.mem_iff_getElem?.1 hmem
                              have hklt : k < new.length := by rw [rn.length]; exact (List.getElem?_eq_some_iff.1 hk).1
                              obtain ⟨v', hv', ha⟩ := rn.get k new[k] (by simp)
                              rw [hk] at hv'; cases hv'
                              obtain ⟨n1, n2⟩ := ha.isCell ((List.all_eq_true.1 c4) new[k] (List.getElem_mem _))
                              cases v <;> first | rfl | exact absurd rfl (n1 _) | exact absurd rfl (n2 _)
                            have hst := run_storeCells_cells (P := P) p.blk (p.off + (o + sl * i.size)) cn.toList 0 w
                              (fun j hj => by rw [cell_of g1]; have := hin j hj; simp; omega)
                              (fun j hj => frozen_of g1 g2 _ (by have := hin j hj; omega)) hone
                            rw [Nat.add_zero] at hst
                            obtain ⟨mk, xk⟩ := kill_sound m hE
                            obtain ⟨m1, x1, hEb', hget', hlt', hgb', hbn'⟩ := ghost_new mk hnew'
                            obtain ⟨r1, r2, r3, r4⟩ := setCells_rest p.blk cn.toList w (p.off + (o + sl * i.size))
                            let p' : Place := ⟨p.blk, p.off + o, p.ext - o⟩
                            have hle' := upd_le (p := p') hEb'
                            have e1 : upd E b' p' b' = some p' := by unfold upd; rw [if_pos rfl]
                            have oldw : ∀ j v', l'[j]? = some v' → ca[p.off + o + j]? = some v' := by
                              intro j v' hj
                              have := k5 j v' hj
                              rwa [cell_of (w := { w with drawn := w.drawn + 1 }) g1] at this
                            have mm := re_place m1 (p := p') hlt' hEb' hgb' (w1 := w.setCells p.blk (p.off + (o + sl * i.size)) cn.toList) (m.lt b p hE) (m.own b p hgb hE)
                              (fun k ob q hk hq => by
                                by_cases ek : k = b'
                                · subst ek; rw [hEb'] at hq; cases hq
                                · have hk1 : (h.kill b).get k = some ob := by
                                    have := MR.env_of mk hq
                                    have e9 : h'.get k = (h.kill b).get k := by
                                      unfold H.new at hnew'
                                      split at hnew'
                                      · cases hnew'
                                      · cases hnew'
                                        unfold H.get
                                        rw [T.get_set _ _ _ _ _ (fu_lim (by have := m1.lim; exact Nat.lt_of_lt_of_le (Nat.lt_succ_self _) this)), if_neg ek]
                                    rw [← e9]; exact hk
                                  rw [H.get_kill] at hk1
                                  split at hk1
                                  · cases hk1
                                  · rename_i ekb
                                    exact m.apart k b ob _ q p ekb hk1 hb hq hE)
                              (fun k hk => setCells_other _ _ _ _ _ hk) r1 r2 r3 r4
                              (fun ob hob => by
                                rw [hget'] at hob; cases hob
                                refine ⟨writeAt ca (p.off + (o + sl * i.size)) cn.toList, el', lo', hi', setCells_heap _ _ _ _ _ _ _ g1, fun k hk => g2 k (by rwa [writeAt_size] at hk), by rw [writeAt_size]; simp [p']; omega, by simp [p', k3, hnl]; omega, fun k v hv => ?_⟩
                                by_cases hk : k < old.length
                                · rw [List.getElem?_append_left hk] at hv
                                  obtain ⟨v', y1, y2⟩ := k2.get k v hv
                                  refine ⟨List.all_eq_true.1 k4 v (List.mem_of_getElem? hv), v', ?_, y2.mono hle'⟩
                                  rw [writeAt_out _ _ _ _ (by simp [p']; omega)]
                                  exact oldw k v' y1
                                · rw [List.getElem?_append_right (by omega)] at hv
                                  obtain ⟨v', y1, y2⟩ := rn.get (k - old.length) v hv
                                  refine ⟨List.all_eq_true.1 c4 v (List.mem_of_getElem? hv), v', ?_, y2.mono hle'⟩
                                  have hkl : k - old.length < cn.toList.length := (List.getElem?_eq_some_iff.1 y1).1
                                  have := writeAt_in cn.toList ca (p.off + (o + sl * i.size)) (k - old.length) hkl (hin _ hkl)
                                  rw [show p.off + (o + sl * i.size) + (k - old.length) = p'.off + k by simp [p']; omega] at this
                                  rw [this, y1])
                            refine ⟨_, _, upd E b' p', stay _ c _ rfl hle (by simp only [add_zero]; rw [Nat.add_assoc]; exact hst), ?_, mm, ?_⟩
                            · refine xk.trans ⟨x1.le.trans hle', fun k hk => ?_, x1.nxt, x1.ghost⟩
                              unfold upd; rw [if_neg (by omega)]
                            · have := AR.slo (E := upd E b' p') b' 0 (sl + n) i.size p' c e1 (by simp [p']; omega) hle
                              simpa [p'] using this
                          · exact go p _ _ l'.toArray hE rfl (by omega) k1 (by simpa using k2) k3 k4
                        | sl0 _ _ _ a hq p hE hzz =>
                          have e0 : old = [] := by
                            obtain ⟨l', k1, k2, k3, k4, k5⟩ := rdN_sound (P := P) md hE hold
                            exact List.eq_nil_of_length_eq_zero (by rw [k3]; simp)
                          subst e0
                          exact go p _ _ #[] hE rfl (by omega) (by simp [Builtin.firstCells, loadCells, loadCellsFrom]) .nil (by simp) rfl
                      · cases ha
                    · cases ha
                · cases ha
            · cases ha
          · cases ha
      · cases ha
  · cases ha
end
end Go.AM
