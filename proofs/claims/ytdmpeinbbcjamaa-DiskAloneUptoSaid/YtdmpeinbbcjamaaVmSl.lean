/- The machine of values: states all of whose objects and variables are listed; operations run on them. -/
import Derived.Test.YtdmpeinbbcjamaaVmFrame2
set_option linter.unusedVariables false
set_option linter.unusedSimpArgs false
namespace Go.VM
open Go.RowKit

abbrev OL := List (Nat × Obj)
def og : OL → Nat → Option Obj
  | [], _ => none
  | (k, o) :: r, n => match Nat.beq k n with
    | true => some o
    | false => og r n
def oset : OL → Nat → Obj → OL
  | [], b, o => [(b, o)]
  | (k, x) :: r, b, o => match Nat.beq k b with
    | true => (k, o) :: r
    | false => (k, x) :: oset r b o
def lset : LM → Nat → List V → LM
  | [], d, cs => [(d, cs)]
  | (k, x) :: r, d, cs => match Nat.beq k d with
    | true => (k, cs) :: r
    | false => (k, x) :: lset r d cs

theorem og_cons (k : Nat) (o : Obj) (r : OL) (n : Nat) : og ((k, o) :: r) n = if n = k then some o else og r n := by
  simp only [og]
  cases hb : Nat.beq k n with
  | true => rw [if_pos (Nat.eq_of_beq_eq_true hb).symm]
  | false => rw [if_neg]; rintro rfl; rw [Nat.beq_refl] at hb; cases hb

theorem og_set : ∀ (l : OL) (b : Nat) (o : Obj) (k : Nat), og (oset l b o) k = if k = b then some o else og l k
  | [], b, o, k => by simp only [oset, og_cons]
  | (j, x) :: r, b, o, k => by
    simp only [oset]
    cases hb : Nat.beq j b with
    | true =>
      have := Nat.eq_of_beq_eq_true hb; subst this
      simp only [og_cons]; split <;> rfl
    | false =>
      have hne : j ≠ b := by rintro rfl; rw [Nat.beq_refl] at hb; cases hb
      simp only [og_cons, og_set r b o k]
      by_cases h1 : k = j
      · rw [if_pos h1, if_neg (by omega), if_pos h1]
      · rw [if_neg h1, if_neg h1]

theorem lg_set : ∀ (l : LM) (b : Nat) (o : List V) (k : Nat), lg (lset l b o) k = if k = b then some o else lg l k
  | [], b, o, k => by simp only [lset, lg_cons]
  | (j, x) :: r, b, o, k => by
    simp only [lset]
    cases hb : Nat.beq j b with
    | true =>
      have := Nat.eq_of_beq_eq_true hb; subst this
      simp only [lg_cons]; split <;> rfl
    | false =>
      have hne : j ≠ b := by rintro rfl; rw [Nat.beq_refl] at hb; cases hb
      simp only [lg_cons, lg_set r b o k]
      by_cases h1 : k = j
      · rw [if_pos h1, if_neg (by omega), if_pos h1]
      · rw [if_neg h1, if_neg h1]

theorem og_put (n : Nat) (l : OL) (lc : LM) (b : Nat) (o : Obj) : H.put ⟨n, og l, lc⟩ b o = ⟨n, og (oset l b o), lc⟩ := by
  simp only [H.put]; congr 1; funext k; rw [og_set]
theorem og_new (n : Nat) (l : OL) (lc : LM) (o : Obj) : H.new ⟨n, og l, lc⟩ o = ⟨n + 1, og (oset l n o), lc⟩ := by
  simp only [H.new]; congr 1; funext k; rw [og_set]

structure SL where
  tm : TM
  df : List AD
  u : Option AMode
  nxt : Nat
  ol : OL
  lc : LM

def SL.toS (s : SL) : S := ⟨s.tm, s.df, s.u, ⟨s.nxt, og s.ol, s.lc⟩⟩

/-- the same, told so that the result is seen. -/
def osetO : OL → Nat → Obj → Option OL
  | [], b, o => some [(b, o)]
  | (k, x) :: r, b, o => match Nat.beq k b with
    | true => some ((k, o) :: r)
    | false => match osetO r b o with
      | some l => some ((k, x) :: l)
      | none => none

theorem osetO_eq : ∀ {l l' : OL} {b : Nat} {o : Obj}, osetO l b o = some l' → l' = oset l b o
  | [], l', b, o, h => by simp only [osetO] at h; cases h; rfl
  | (k, x) :: r, l', b, o, h => by
    simp only [osetO] at h
    simp only [oset]
    split at h
    · rename_i e; cases h; first | rfl | rw [e]
    · rename_i e
      try rw [e]
      split at h
      · rename_i l hl; cases h; rw [osetO_eq hl]
      · cases h

def lsetO : LM → Nat → List V → Option LM
  | [], d, cs => some [(d, cs)]
  | (k, x) :: r, d, cs => match Nat.beq k d with
    | true => some ((k, cs) :: r)
    | false => match lsetO r d cs with
      | some l => some ((k, x) :: l)
      | none => none

theorem lsetO_eq : ∀ {l l' : LM} {b : Nat} {o : List V}, lsetO l b o = some l' → l' = lset l b o
  | [], l', b, o, h => by simp only [lsetO] at h; cases h; rfl
  | (k, x) :: r, l', b, o, h => by
    simp only [lsetO] at h
    simp only [lset]
    split at h
    · rename_i e; cases h; first | rfl | rw [e]
    · rename_i e
      try rw [e]
      split at h
      · rename_i l hl; cases h; rw [lsetO_eq hl]
      · cases h

def pointsTo (d : Nat) : Option TV → Bool
  | some (.l x _) => Nat.beq x d
  | _ => false

def tpgO (full : TM) (d : Nat) : TM → Option TM
  | [] => some []
  | (k, v) :: r => match pointsTo d (tg full k), tpgO full d r with
    | true, some r => some r
    | false, some r => some ((k, v) :: r)
    | _, none => none

theorem tpgO_eq {full : TM} {d : Nat} : ∀ {tm tm' : TM}, tpgO full d tm = some tm' → tm' = tm.filter fun e => match tg full e.1 with | some (.l x _) => !Nat.beq x d | _ => true
  | [], tm', h => by simp only [tpgO] at h; cases h; rfl
  | (k, v) :: r, tm', h => by
    have key : (match tg full k with | some (.l x _) => !Nat.beq x d | _ => true) = !pointsTo d (tg full k) := by
      unfold pointsTo
      split <;> rfl
    simp only [tpgO] at h
    rw [List.filter_cons]
    simp only [key]
    split at h
    · rename_i r' h1 h2; cases h; rw [h1, ← tpgO_eq h2]; rfl
    · rename_i r' h1 h2; cases h; rw [h1, ← tpgO_eq h2]; rfl
    · cases h

/-! ### operations, with clean results -/
def lightC (gl : List Nat) (tm : TM) (h : H) : RO → Option TV
  | .cvb _ => none
  | .eq d neg x y => match rv gl tm x, rv gl tm y with
    | some a, some b => match eqV d a b with
      | some q => match neg with
        | true => some (.v (.bool !q))
        | false => some (.v (.bool q))
      | none => none
    | _, _ => none
  | .mkI t x => match rv gl tm x with
    | some v => some (.v (.iface t v))
    | none => none
  | .idxs x i => match rv gl tm x, (rv gl tm i).bind asIdx with
    | some (.str s), some i => match s[i]? with
      | some b => some (.v (.int .u8 b))
      | none => none
    | _, _ => none
  | .bld z pl parts => match rvp gl tm parts with
    | some ps => match fillV (pl[·]?) z ps with
      | some l => some (.v (.agg l))
      | none => none
    | none => none
  | .lk x k ok z d => match rl gl tm h (.lk x k ok z d) with
    | some (.v v) => some (.v v)
    | _ => none
  | ro => rl gl tm h ro

theorem lightC_eq {gl : List Nat} {tm : TM} {h : H} {ro : RO} {v : TV} (e : lightC gl tm h ro = some v) : lightX gl tm h ro = some v := by
  unfold lightC at e
  split at e
  · cases e
  · rename_i d neg x y
    simp only [lightX, rl]
    split at e
    · rename_i a b ha hb
      rw [ha, hb]
      simp only
      split at e
      · rename_i q hq
        rw [hq]
        cases neg <;> exact e
      · cases e
    · cases e
  · rename_i t x
    simp only [lightX, rl]
    split at e
    · rename_i w hw; rw [hw]; exact e
    · cases e
  · rename_i x i
    simp only [lightX, rl]
    split at e
    · rename_i s k hs hi
      rw [hs, hi]
      simp only
      split at e
      · rename_i b hb; rw [hb]; exact e
      · cases e
    · cases e
  · rename_i z pl parts
    simp only [lightX, rl]
    split at e
    · rename_i ps hps
      rw [hps]
      simp only
      split at e
      · rename_i l hl; rw [hl]; exact e
      · cases e
    · cases e
  · rename_i x k ok z d
    simp only [lightX]
    split at e
    · rename_i w hw; rw [hw]; exact e
    · cases e
  · cases ro <;> first
      | exact e
      | exact (‹∀ x, RO.cvb _ = RO.cvb x → False› _ rfl).elim

/-- a value whose capacities are forgotten, if it can be seen. -/
def cleanO : V → Option V
  | .bool b => some (.bool b)
  | .int k n => some (.int k n)
  | .str s => some (.str s)
  | .nilp => some .nilp
  | .ptr b o => some (.ptr b o)
  | .lst es _ => some (.lst es .unk)
  | .sl b o n c => some (.sl b o n c)
  | .nilm => some .nilm
  | .map r => some (.map r)
  | .fn f a c => some (.fn f a c)
  | .nilf => some .nilf
  | .iface t v => some (.iface t v)
  | .nili => some .nili
  | .agg _ => none
  | .tup _ => none

theorem cleanO_eq {v w : V} (h : cleanO v = some w) : w = v.clean1 ∧ v.isCell = true := by
  cases v <;> simp only [cleanO] at h <;> cases h <;> exact ⟨rfl, rfl⟩

def cleanL : List V → Option (List V)
  | [] => some []
  | v :: l => match cleanO v, cleanL l with
    | some v, some l => some (v :: l)
    | _, _ => none

theorem cleanL_eq : ∀ {l m : List V}, cleanL l = some m → m = l.map V.clean1 ∧ l.all V.isCell = true
  | [], m, h => by simp only [cleanL] at h; cases h; exact ⟨rfl, rfl⟩
  | v :: l, m, h => by
    simp only [cleanL] at h
    split at h
    · rename_i w k h1 h2
      cases h
      obtain ⟨rfl, a⟩ := cleanO_eq h1
      obtain ⟨rfl, b⟩ := cleanL_eq h2
      exact ⟨rfl, by simp [a, b]⟩
    · cases h

/-- cells as they are, if they can be seen. -/
def cellO (v : V) : Option (List V) :=
  match v with
  | .agg l => match l.all V.isCell with
    | true => some l
    | false => none
  | .tup _ => none
  | .bool b => some [.bool b]
  | .int k n => some [.int k n]
  | .str s => some [.str s]
  | .nilp => some [.nilp]
  | .ptr b o => some [.ptr b o]
  | .lst es c => some [.lst es c]
  | .sl b o n c => some [.sl b o n c]
  | .nilm => some [.nilm]
  | .map r => some [.map r]
  | .fn f a c => some [.fn f a c]
  | .nilf => some [.nilf]
  | .iface t v => some [.iface t v]
  | .nili => some [.nili]

theorem cellO_eq {v : V} {l : List V} (h : cellO v = some l) : l = v.cells ∧ v.cells.all V.isCell = true := by
  cases v with
  | agg m =>
    simp only [cellO] at h
    split at h
    · rename_i e; cases h; exact ⟨rfl, e⟩
    · cases h
  | tup m => simp only [cellO] at h; cases h
  | _ => simp only [cellO] at h; cases h; exact ⟨rfl, rfl⟩

def partsC (sz : Nat) : Nat → List (Nat × V) → Option (List (List V))
  | _, [] => some []
  | i, (j, v) :: r => match cellO v with
    | some c => match Nat.beq i j && Nat.beq c.length sz with
      | true => match cleanL c, partsC sz (i + 1) r with
        | some c, some l => some (c :: l)
        | _, _ => none
      | false => none
    | none => none

theorem partsC_eq {sz : Nat} : ∀ {i : Nat} {ps : List (Nat × V)} {es : List (List V)}, partsC sz i ps = some es → ∃ es0, partsEs sz i ps = some es0 ∧ es = es0.map (·.map V.clean1)
  | i, [], es, h => by simp only [partsC] at h; cases h; exact ⟨[], rfl, rfl⟩
  | i, (j, v) :: r, es, h => by
    simp only [partsC] at h
    split at h
    · rename_i c hc
      obtain ⟨rfl, hall⟩ := cellO_eq hc
      split at h
      · rename_i hq
        split at h
        · rename_i c2 l h1 h2
          cases h
          obtain ⟨rfl, _⟩ := cleanL_eq h1
          obtain ⟨es0, g1, rfl⟩ := partsC_eq h2
          refine ⟨v.cells :: es0, ?_, rfl⟩
          simp only [partsEs, hq, hall, Bool.and_self, g1]; rfl
        · cases h
      · cases h
    · cases h

def rafC (gl : List Nat) (tm : TM) : RO → Option V
  | .bs sz len z parts => match rvp gl tm parts with
    | some ps => match partsC sz 0 ps with
      | some es => match Nat.beq es.length len with
        | true => some (.lst es (.ex len))
        | false => none
      | none => none
    | none => none
  | .csb x => match rv gl tm x with
    | some (.str bs) => some (.lst (bs.map fun (n : Nat) => [V.int .u8 n]) .unk)
    | _ => none
  | _ => none

theorem rafC_eq {gl : List Nat} {tm : TM} {ro : RO} {v : V} (e : rafC gl tm ro = some v) : raf gl tm ro = some v := by
  unfold rafC at e
  split at e
  · simp only [raf]
    split at e
    · rename_i ps hps
      rw [hps]
      simp only
      split at e
      · rename_i es hes
        obtain ⟨es0, h1, rfl⟩ := partsC_eq hes
        rw [h1]
        simp only
        rw [List.length_map] at e
        split at e
        · rename_i hb; rw [hb]; exact e
        · cases e
      · cases e
    · cases e
  · exact e
  · cases e

def ralC (gl : List Nat) (tm : TM) : RO → Option (List V)
  | .al z => match z.all V.isCell with
    | true => some z
    | false => none
  | .bx x => match rv gl tm x with
    | some v => cellO v
    | none => none
  | _ => none

theorem ralC_eq {gl : List Nat} {tm : TM} {ro : RO} {l : List V} (e : ralC gl tm ro = some l) : ral gl tm ro = some l := by
  unfold ralC at e
  split at e
  · exact e
  · simp only [ral]
    split at e
    · rename_i v hv
      obtain ⟨rfl, h⟩ := cellO_eq e
      rw [hv]; simp only [h]
    · cases e
  · cases e

def rahC (gl : List Nat) (tm : TM) (b : Nat) : RO → Option (V × Obj)
  | .bx x => match rv gl tm x with
    | some v => match cellO v with
      | some l => some (.ptr b 0, .cells false l)
      | none => none
    | none => none
  | ro => rah gl tm b ro

theorem rahC_eq {gl : List Nat} {tm : TM} {b : Nat} {ro : RO} {r : V × Obj} (e : rahC gl tm b ro = some r) : rah gl tm b ro = some r := by
  unfold rahC at e
  split at e
  · simp only [rah]
    split at e
    · rename_i v hv
      split at e
      · rename_i l hl
        obtain ⟨rfl, h⟩ := cellO_eq hl
        rw [hv]; simp only [h]; exact e
      · cases e
    · cases e
  · exact e

/-- a store. -/
def rasC (gl : List Nat) (tm : TM) (ol : OL) (lc : LM) : RO → Option (OL × LM)
  | .st a x n => match rvt gl tm a, rv gl tm x with
    | some a, some v => match cellO v with
      | some c => match Nat.beq c.length n with
        | true => match a with
          | .v (.ptr b o) => match og ol b, Nat.ble glim b with
            | some (.cells opn cs), true => match putC cs o c with
              | some cs => match osetO ol b (.cells opn cs) with
                | some ol => some (ol, lc)
                | none => none
              | none => none
            | _, _ => none
          | .l d o => match lg lc d with
            | some cs => match putC cs o c with
              | some cs => match lsetO lc d cs with
                | some lc => some (ol, lc)
                | none => none
              | none => none
            | none => none
          | _ => none
        | false => none
      | none => none
    | _, _ => none
  | _ => none

theorem rasC_eq {gl : List Nat} {tm : TM} {n : Nat} {ol ol' : OL} {lc lc' : LM} {ro : RO} (e : rasC gl tm ol lc ro = some (ol', lc')) : ∃ h', ras gl tm ⟨n, og ol, lc⟩ ro = some h' ∧ h'.nxt = n ∧ h'.ob = og ol' ∧ ∀ d, lg lc' d = lg h'.lc d := by
  unfold rasC at e
  split at e
  · rename_i a x k
    simp only [ras]
    split at e
    · rename_i av v ha hv
      rw [ha, hv]
      simp only
      split at e
      · rename_i c hc
        obtain ⟨rfl, hall⟩ := cellO_eq hc
        split at e
        · rename_i hk
          have hk' : decide (v.cells.length = k) = true := decide_eq_true (Nat.eq_of_beq_eq_true hk)
          rw [hk', hall]
          simp only [Bool.and_self]
          split at e
          · rename_i b o
            simp only
            split at e
            · rename_i opn cs hb hg
              rw [hb, hg]
              simp only
              split at e
              · rename_i cs2 hp
                split at e
                · rename_i ol2 hol
                  cases e
                  rw [hp]
                  exact ⟨_, rfl, rfl, by simp only [og_put, osetO_eq hol], fun _ => rfl⟩
                · cases e
              · cases e
            · cases e
          · rename_i d o
            simp only
            split at e
            · rename_i cs hl
              rw [hl]
              simp only
              split at e
              · rename_i cs2 hp
                split at e
                · rename_i lc2 hlc
                  cases e
                  rw [hp]
                  exact ⟨_, rfl, rfl, rfl, fun k => by rw [lsetO_eq hlc, lg_set, lg_cons]⟩
                · cases e
              · cases e
            · cases e
          · cases e
        · cases e
      · cases e
    · cases e
  · cases e

/-- variables, told in another order. -/
theorem SW.lcs {gl : List Nat} {fr : Fr} {s1 : S} {lc : LM} (h : ∀ d, lg lc d = lg s1.h.lc d) : SW gl fr s1 { s1 with h := { s1.h with lc } } := by
  refine ⟨rfl, fun E F w0 w b tmps df cs st => ⟨E, F, ⟨Env.le_refl E, fun _ _ => rfl, Nat.le_refl _, fun _ _ _ _ h _ => h⟩, rfl, ?_⟩⟩
  exact ⟨st.mr.forget rfl (fun _ _ h => h) (fun d p cs _ hcs => by rw [h d]; exact hcs), st.tr, st.dr, st.uk, st.fr, st.gl⟩

theorem DoesR.store {P : Program} {gl : List Nat} {nt : Nat} {tm : TM} {n : Nat} {ol ol' : OL} {lc lc' : LM} {ro : RO} (e : rasC gl tm ol lc ro = some (ol', lc')) (hk : Nat.beq (kindRO ro) 3 = false) : DoesR P gl nt tm ⟨n, og ol, lc⟩ (some ro) (.v undefV) ⟨n, og ol', lc'⟩ := by
  obtain ⟨h', h1, h2, h3, h4⟩ := rasC_eq (n := n) e
  refine fun o ho => ⟨?_, nd_of ho hk⟩
  have d := ras_does (P := P) (nt := nt) ho h1
  intro E F w0 w tmps m g tr
  obtain ⟨E', F', w', nn, v', a1, a2, a3, a4, a5, a6, a7⟩ := d E F w0 w tmps m g tr
  have hh : h' = ⟨n, og ol', h'.lc⟩ := by cases h'; simp only at h2 h3; rw [h2, h3]
  refine ⟨E', F', w', nn, v', a1, a2, ?_, a4, a5, ?_, a7⟩
  · rw [hh] at a3; exact ⟨a3.le, a3.old, a3.nxt, a3.ghost⟩
  · rw [hh] at a6
    exact a6.forget rfl (fun _ _ h => h) (fun d p cs _ hcs => by rw [h4 d]; exact hcs)

/-! ### runs -/
/-- operations in order, as far as they compute; at most so many. -/
def sqS (gl : List Nat) (nt : Nat) (hp : List Nat) : Nat → List RI → SL → Option (List RI × SL)
  | 0, l, s => some (l, s)
  | _, [], s => some ([], s)
  | n + 1, r :: l, ⟨tm, df, u, nx, ol, lc⟩ => match wantR r.gd tm with
    | none => none
    | some false => match putT nt tm r.dst (.v undefV) with
      | some tm => sqS gl nt hp n l ⟨tm, df, u, nx, ol, lc⟩
      | none => none
    | some true => match r.ro with
      | none => none
      | some ro => match kindRO ro with
        | 0 => match lightC gl tm ⟨nx, og ol, lc⟩ ro with
          | some v => match putT nt tm r.dst v with
            | some tm => sqS gl nt hp n l ⟨tm, df, u, nx, ol, lc⟩
            | none => none
          | none => some (r :: l, ⟨tm, df, u, nx, ol, lc⟩)
        | 1 => match r.dst with
          | none => none
          | some d => match hp.contains d with
            | true => match rahC gl tm nx ro with
              | some (v, ob) => match putT nt tm (some d) (.v v), osetO ol nx ob with
                | some tm, some ol => sqS gl nt hp n l ⟨tm, df, u, nx + 1, ol, lc⟩
                | _, _ => none
              | none => some (r :: l, ⟨tm, df, u, nx, ol, lc⟩)
            | false => match rafC gl tm ro with
              | some v => match putT nt tm (some d) (.v v) with
                | some tm => sqS gl nt hp n l ⟨tm, df, u, nx, ol, lc⟩
                | none => none
              | none => match ralC gl tm ro, Nat.blt d nt with
                | some cs, true => match tpgO tm d tm, lsetO lc d cs with
                  | some tm, some lc => sqS gl nt hp n l ⟨(d, .l d 0) :: tm, df, u, nx, ol, lc⟩
                  | _, _ => none
                | _, _ => match rahC gl tm nx ro with
                  | some (v, ob) => match putT nt tm (some d) (.v v), osetO ol nx ob with
                    | some tm, some ol => sqS gl nt hp n l ⟨tm, df, u, nx + 1, ol, lc⟩
                    | _, _ => none
                  | none => some (r :: l, ⟨tm, df, u, nx, ol, lc⟩)
        | 2 => match rasC gl tm ol lc ro with
          | some (ol, lc) => match putT nt tm r.dst (.v undefV) with
            | some tm => sqS gl nt hp n l ⟨tm, df, u, nx, ol, lc⟩
            | none => none
          | none => some (r :: l, ⟨tm, df, u, nx, ol, lc⟩)
        | _ => some (r :: l, ⟨tm, df, u, nx, ol, lc⟩)

section
variable {P : Program} {gl : List Nat} {fr : Fr} {QN : S → Prop} {QX : X → S → Prop}

theorem WQ.runS (hp : List Nat) : ∀ (n : Nat) (l : List RI) (s : SL) (l2 : List RI) (s2 : SL), sqS gl fr.nt hp n l s = some (l2, s2) → WQ P gl fr l2 s2.toS QN QX → WQ P gl fr l s.toS QN QX
  | 0, l, s, l2, s2, h, k => by simp only [sqS] at h; cases h; exact k
  | n + 1, [], s, l2, s2, h, k => by simp only [sqS] at h; cases h; exact k
  | n + 1, r :: l, ⟨tm, df, u, nx, ol, lc⟩, l2, s2, h, k => by
    simp only [sqS] at h
    split at h
    · cases h
    · rename_i hw
      split at h
      · rename_i tm1 hput
        obtain ⟨x, s', q1, q2⟩ := WQ.runS hp n l _ l2 s2 h k
        exact ⟨x, s', .skip hw hput q1, q2⟩
      · cases h
    · rename_i hw
      split at h
      · cases h
      · rename_i ro hro
        split at h
        · rename_i hk
          split at h
          · rename_i v hv
            split at h
            · rename_i tm1 hput
              exact WQ.light (s := SL.toS ⟨tm, df, u, nx, ol, lc⟩) hro (by rw [hk]; rfl) hw (lightX_sound (lightC_eq hv)) hput (WQ.runS hp n l _ l2 s2 h k)
            · cases h
          · cases h; exact k
        · rename_i hk
          split at h
          · cases h
          · rename_i d hd
            have obj : ∀ (v : V) (ob : Obj) (tm1 : TM) (ol1 : OL), rahC gl tm nx ro = some (v, ob) → putT fr.nt tm (some d) (.v v) = some tm1 → osetO ol nx ob = some ol1 → sqS gl fr.nt hp n l ⟨tm1, df, u, nx + 1, ol1, lc⟩ = some (l2, s2) → WQ P gl fr (r :: l) (SL.toS ⟨tm, df, u, nx, ol, lc⟩) QN QX := by
              intro v ob tm1 ol1 ha hput hol hs
              have := WQ.runS hp n l _ l2 s2 hs k
              refine WQ.does (s := SL.toS ⟨tm, df, u, nx, ol, lc⟩) (h' := (SL.toS ⟨tm, df, u, nx, ol, lc⟩).h.new ob) (v := .v v) (tm := tm1) hw (by rw [hro]; exact obj_doesR (rah_objR (rahC_eq ha)) (by rw [hk]; rfl)) (by rw [hd]; exact hput) ?_
              have e : (SL.toS ⟨tm, df, u, nx, ol, lc⟩).h.new ob = ⟨nx + 1, og (oset ol nx ob), lc⟩ := og_new ..
              rw [e, ← osetO_eq hol]; exact this
            split at h
            · split at h
              · rename_i v ob ha
                split at h
                · rename_i tm1 ol1 hput hol; exact obj v ob tm1 ol1 ha hput hol h
                · cases h
              · cases h; exact k
            · split at h
              · rename_i v ha
                split at h
                · rename_i tm1 hput
                  exact WQ.does (s := SL.toS ⟨tm, df, u, nx, ol, lc⟩) (v := .v v) (tm := tm1) hw (by rw [hro]; exact list_doesR (raf_listR (rafC_eq ha)) (by rw [hk]; rfl)) (by rw [hd]; exact hput) (WQ.runS hp n l _ l2 s2 h k)
                · cases h
              · split at h
                · rename_i cs ha hlt
                  split at h
                  · rename_i tm1 lc1 htm hlc
                    obtain ⟨x, s', q1, q2⟩ := WQ.runS hp n l _ l2 s2 h k
                    have e1 : tm1 = tpg tm d := tpgO_eq htm
                    subst e1
                    have e2 := lsetO_eq hlc
                    subst e2
                    refine ⟨x, s', .loc (s := SL.toS ⟨tm, df, u, nx, ol, lc⟩) (cs := cs) hw (by rw [hro]; exact ral_locR (ralC_eq ha)) hd hlt ?_ q1, q2⟩
                    exact SW.lcs (s1 := { (SL.toS ⟨tm, df, u, nx, ol, lc⟩) with tm := (d, .l d 0) :: tpg tm d, h := ⟨nx, og ol, (d, cs) :: lc⟩ }) (lc := lset lc d cs) (fun k => by rw [lg_set]; simp only [lg_cons])
                  · cases h
                · split at h
                  · rename_i v ob ha
                    split at h
                    · rename_i tm1 ol1 hput hol; exact obj v ob tm1 ol1 ha hput hol h
                    · cases h
                  · cases h; exact k
        · rename_i hk
          split at h
          · rename_i ol2 lc2 ha
            split at h
            · rename_i tm1 hput
              exact WQ.does (s := SL.toS ⟨tm, df, u, nx, ol, lc⟩) (h' := ⟨nx, og ol2, lc2⟩) (tm := tm1) hw (by rw [hro]; exact DoesR.store ha (by rw [hk]; rfl)) hput (WQ.runS hp n l _ l2 s2 h k)
            · cases h
          · cases h; exact k
        · cases h; exact k
end
end Go.VM
