/- The machine of values: the frame for listed objects. -/
import Derived.Test.YtdmpeinbbcjamaaVmSl3
set_option linter.unusedVariables false
set_option linter.unusedSimpArgs false
namespace Go.VM
open Go.RowKit

/-- the numbers from 1000 on, as those of a memory: first the given ones, then new ones. -/
def ρL (bs : List Nat) (nx : Nat) (i : Nat) : Nat := if i < glim then i else match bs[i - glim]? with | some b => b | none => nx + (i - glim - bs.length)

theorem ρL_low {bs : List Nat} {nx i : Nat} (h : i < glim) : ρL bs nx i = i := by unfold ρL; rw [if_pos h]
theorem ρL_at {bs : List Nat} {nx i b : Nat} (h : bs[i]? = some b) : ρL bs nx (glim + i) = b := by
  unfold ρL; rw [if_neg (by omega), Nat.add_sub_cancel_left, h]
theorem ρL_new {bs : List Nat} {nx i : Nat} (h : glim + bs.length ≤ i) : ρL bs nx i = nx + (i - (glim + bs.length)) := by
  unfold ρL; rw [if_neg (by omega), List.getElem?_eq_none (by omega)]; simp only; omega

theorem SCall.frameL {P : Program} {gl : List Nat} {f : FuncId} {args args2 : List V} {v v2 : V} {ol ol' : OL} {n : Nat} {h h' : H} (bs : List Nat) (hgl : gl.all (Nat.blt · glim) = true)
    (core : SCall P gl f args none ⟨glim + bs.length, og ol, []⟩ (.ret v) none ⟨glim + bs.length + n, og ol', []⟩)
    (hnd : bs.Nodup) (hbig : ∀ b ∈ bs, glim ≤ b) (hol : ∀ i, (og ol i).isSome = true ↔ glim ≤ i ∧ i < glim + bs.length) (hol' : olB (glim + bs.length + n) ol' = true)
    (hobj : ∀ (i : Nat) (b : Nat) (o : Obj), bs[i]? = some b → og ol (glim + i) = some o → h.ob b = some (o.ren (ρL bs h.nxt)))
    (hin : olIn (· < glim + bs.length) ol) (hargs : Ins (· < glim + bs.length) args) (hv : v.In (· < glim + bs.length + n)) (hin' : olIn (· < glim + bs.length + n) ol')
    (ha : rens (ρL bs h.nxt) args = args2) (hr : v.ren (ρL bs h.nxt) = v2) (hlc : h'.lc = h.lc) (hnx : h'.nxt = h.nxt + n)
    (hfoot : ∀ i, i < bs.length + n → h'.ob (ρL bs h.nxt (glim + i)) = (og ol' (glim + i)).map (Obj.ren (ρL bs h.nxt)))
    (hrest : ∀ b, (∀ i, i < bs.length + n → ρL bs h.nxt (glim + i) ≠ b) → h'.ob b = h.ob b) : SCall P gl f args2 none h (.ret v2) none h' := by
  refine SCall.known hlc core.fn fun bg => ?_
  obtain ⟨E, F, w0, w, args', bg⟩ := bg
  have hD : ∀ i, i < glim + bs.length → i < glim ∨ (og ol i).isSome = true := by
    intro i hi
    rcases Nat.lt_or_ge i glim with g | g
    · exact .inl g
    · exact .inr ((hol i).2 ⟨g, hi⟩)
  have hDO : ∀ i, i < glim + bs.length + n → DOut ⟨glim + bs.length, og ol, []⟩ i := by
    intro i hi
    rcases Nat.lt_or_ge i (glim + bs.length) with g | g
    · rcases hD i g with q | q
      · exact .inl q
      · exact .inr (.inl q)
    · exact .inr (.inr g)
  have at_ : ∀ i, glim ≤ i → i < glim + bs.length → ∃ b, bs[i - glim]? = some b ∧ ρL bs h.nxt i = b := by
    intro i h1 h2
    have : i - glim < bs.length := by omega
    refine ⟨bs[i - glim], List.getElem?_eq_getElem this, ?_⟩
    have := ρL_at (nx := h.nxt) (List.getElem?_eq_getElem this)
    rwa [show glim + (i - glim) = i by omega] at this
  refine SCall.frame (ρ := ρL bs h.nxt) hgl core (fun _ => ?_) (Ins.mono hD hargs) (hv.mono hDO) (fun i o hi => ?_) ha hr ?_
  · refine ⟨fun i hi => ρL_low hi, fun i h1 h2 => ?_, fun i hi => ρL_new hi, fun i j hi hj hi' hj' e => ?_, Nat.le_add_right _ _, fun i hi => ?_, fun i o hi => ?_, fun i o hi => ?_⟩
    · obtain ⟨b, g1, g2⟩ := at_ i h1 h2
      rw [g2]; exact hbig b (List.mem_of_getElem? g1)
    · obtain ⟨b, g1, g2⟩ := at_ i ((hol i).1 hi').1 hi
      obtain ⟨c, k1, k2⟩ := at_ j ((hol j).1 hj').1 hj
      rw [g2, k2] at e
      subst e
      have := (List.getElem?_inj (by
        have h2 : i - glim < bs.length := (List.getElem?_eq_some_iff.1 g1).1
        exact h2) hnd).1 (g1.trans k1.symm)
      have := ((hol i).1 hi').1
      have := ((hol j).1 hj').1
      omega
    · cases hq : og ol i with
      | none => exact hq
      | some o =>
        have := ((hol i).1 (by rw [hq]; rfl)).2
        have hi' : glim + bs.length ≤ i := hi
        omega
    · have hi' : og ol i = some o := hi
      obtain ⟨g1, g2⟩ := (hol i).1 (by rw [hi']; rfl)
      obtain ⟨b, k1, k2⟩ := at_ i g1 g2
      rw [k2]
      refine hobj (i - glim) b o k1 ?_
      rw [show glim + (i - glim) = i by omega]; exact hi'
    · have := olIn_get hin i o hi
      cases o with
      | cells op cs => exact Ins.mono hD this
      | map es =>
        have go : ∀ es : List (V × V), Ines (· < glim + bs.length) es → Ines (fun j => j < glim ∨ (og ol j).isSome = true) es := by
          intro es
          induction es with
          | nil => intro _; trivial
          | cons e es ih => intro hh; obtain ⟨a, b⟩ := e; exact ⟨⟨hh.1.1.mono hD, hh.1.2.mono hD⟩, ih hh.2⟩
        exact go es this
      | loop l => exact this
      | dfr c => exact this
      | siter s p => trivial
      | tok k => trivial
  · have := olIn_get hin' i o hi
    cases o with
    | cells op cs => exact Ins.mono hDO this
    | map es =>
      have go : ∀ es : List (V × V), Ines (· < glim + bs.length + n) es → Ines (DOut ⟨glim + bs.length, og ol, []⟩) es := by
        intro es
        induction es with
        | nil => intro _; trivial
        | cons e es ih => intro hh; obtain ⟨a, b⟩ := e; exact ⟨⟨hh.1.1.mono hDO, hh.1.2.mono hDO⟩, ih hh.2⟩
      exact go es this
    | loop l => exact this
    | dfr c => exact this
    | siter s p => trivial
    | tok k => trivial
  · have hob : h'.ob = (mrg (ρL bs h.nxt) ⟨glim + bs.length, og ol, []⟩ h ⟨glim + bs.length + n, og ol', []⟩).ob := by
      funext b
      simp only [mrg]
      split
      · rename_i i hi
        obtain ⟨h1, h2⟩ := inv_spec hi
        have hgi : glim ≤ i := by
          rcases h1 with h1 | h1
          · exact ((hol i).1 h1).1
          · have : glim + bs.length ≤ i := h1; omega
        rcases Nat.lt_or_ge i (glim + bs.length + n) with g | g
        · have := hfoot (i - glim) (by omega)
          rw [show glim + (i - glim) = i by omega, h2] at this
          exact this
        · rw [olB_none hol' i g]
          rw [ρL_new (by omega)] at h2
          have hf := (bg.mr.fresh b (by omega)).2.1
          rw [hrest b fun j hj e => ?_, hf]; rfl
          rcases Nat.lt_or_ge j bs.length with q | q
          · obtain ⟨c, k1, k2⟩ := at_ (glim + j) (by omega) (by omega)
            rw [k2] at e
            cases ho : og ol (glim + j) with
            | none =>
              have := (hol (glim + j)).2 ⟨by omega, by omega⟩
              rw [ho] at this; cases this
            | some o =>
              rw [show glim + j - glim = j by omega] at k1
              have := hobj j c o k1 ho
              rw [e, hf] at this; cases this
          · rw [ρL_new (by omega)] at e; omega
      · rename_i hi
        refine hrest b fun j hj e => ?_
        unfold inv at hi
        split at hi
        · cases hi
        · rename_i hn
          refine hn ⟨glim + j, ?_, e⟩
          rcases Nat.lt_or_ge j bs.length with q | q
          · exact .inl ((hol (glim + j)).2 ⟨by omega, by omega⟩)
          · exact .inr (by show glim + bs.length ≤ glim + j; omega)
    cases h' with
    | mk nx ob lc =>
      simp only at hob hlc hnx
      subst hlc; subst hnx; subst hob
      simp only [mrg]
      congr 1
      omega

theorem PendR.passM {P : Program} {gl : List Nat} {nt : Nat} {h h0 : H} {anc i : Nat} {ro : Option RO} {tmr : TM} {v : TV} {es : List ER} (hp : anc.testBit i = true) (next : PendR P gl nt h anc es) : PendR P gl nt h anc (⟨i, ro, tmr, v, h0⟩ :: es) := .pass hp next
theorem PendR.sameM {P : Program} {gl : List Nat} {nt : Nat} {h h0 : H} {anc i : Nat} {ro : Option RO} {tmr : TM} {v : TV} {es : List ER} (hp : h0 = h) (next : PendR P gl nt h anc es) : PendR P gl nt h anc (⟨i, ro, tmr, v, h0⟩ :: es) := .same hp next
theorem PendR.lightM {P : Program} {gl : List Nat} {nt : Nat} {h h0 : H} {anc i : Nat} {ro : RO} {tmr : TM} {v : TV} {es : List ER} (hl : lightC gl tmr h ro = some v) (next : PendR P gl nt h anc es) : PendR P gl nt h anc (⟨i, some ro, tmr, v, h0⟩ :: es) := .light (lightX_sound (lightC_eq hl)) next

theorem wrap64 {n : Int} (h1 : n < 9223372036854775808) (h2 : -9223372036854775808 ≤ n) : IntKind.i64.wrap n = n := by
  simp [IntKind.wrap, IntKind.bits, IntKind.signed]; omega

section
variable {P : Program} {gl : List Nat} {fr : Fr} {QN : S → Prop} {QX : X → S → Prop} {ds : List Nat} {anc : Nat} {hs : List (RI × List RI)} {l : List RI} {r : RI} {tm tm1 : TM} {df : List AD} {u : Option AMode} {nx : Nat} {ol : OL} {lc : LM} {es : List ER}
theorem DW.pureS {v : TV} (hw : wantR r.gd (tsub tm r.rd) = some true) (ho : ∀ h, LightR P gl fr.nt (tsub tm r.rd) h r.ro v) (hp : putT fr.nt tm r.dst v = some tm1)
    (h : DW P gl fr ds l anc hs (SL.toS ⟨tm1, df, u, nx, ol, lc⟩) es QN QX) : DW P gl fr ds (r :: l) anc hs (SL.toS ⟨tm, df, u, nx, ol, lc⟩) es QN QX := DW.pure (s := SL.toS ⟨tm, df, u, nx, ol, lc⟩) hw ho hp h
theorem DW.lightS {v : TV} (hw : wantR r.gd (tsub tm r.rd) = some true) (ho : LightR P gl fr.nt (tsub tm r.rd) ⟨nx, og ol, lc⟩ r.ro v) (hp : putT fr.nt tm r.dst v = some tm1)
    (h : DW P gl fr ds l anc hs (SL.toS ⟨tm1, df, u, nx, ol, lc⟩) (⟨r.i, r.ro, tsub tm r.rd, v, ⟨nx, og ol, lc⟩⟩ :: es) QN QX) : DW P gl fr ds (r :: l) anc hs (SL.toS ⟨tm, df, u, nx, ol, lc⟩) es QN QX := DW.light (s := SL.toS ⟨tm, df, u, nx, ol, lc⟩) hw ho hp h
theorem add_str {nt : Nat} {x y : RX} {a b : List Nat} (hx : rv gl tm x = some (.str a)) (hy : rv gl tm y = some (.str b)) (hl : a.length + b.length ≤ lim) (h : H) : LightR P gl nt tm h (some (.bin .add x y)) (.v (.str (a ++ b))) := by
  refine light_rl ?_ (fun _ e => by cases e)
  simp only [rl, hx, hy, abin, if_pos hl, Option.map_some]
end

theorem Inss_map {D : Nat → Prop} {α : Type} {f : α → List V} : ∀ {l : List α}, (∀ x ∈ l, Ins D (f x)) → Inss D (l.map f)
  | [], _ => trivial
  | a :: l, h => ⟨h a (List.mem_cons_self ..), Inss_map fun x hx => h x (List.mem_cons_of_mem _ hx)⟩

theorem renss_map {ρ : Nat → Nat} {α : Type} {f : α → List V} : ∀ {l : List α}, (∀ x ∈ l, rens ρ (f x) = f x) → renss ρ (l.map f) = l.map f
  | [], _ => rfl
  | a :: l, h => by simp only [List.map_cons, renss, h a (List.mem_cons_self ..), renss_map fun x hx => h x (List.mem_cons_of_mem _ hx)]
end Go.VM
