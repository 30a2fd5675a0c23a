/- The machine of values: more for loops over listed memory. -/
import Derived.Test.YtdmpeinbbcjamaaVmMore
set_option linter.unusedVariables false
set_option linter.unusedSimpArgs false
namespace Go.VM
open Go.RowKit

/-- slots told anew, one by one. -/
inductive TellT (tm1 : TM) (lc : LM) : TM → Prop where
  | nil : TellT tm1 lc []
  | cons {k : Nat} {u v : TV} {r : TM} (h : tg tm1 k = some u) (t : TLe lc u v) (next : TellT tm1 lc r) : TellT tm1 lc ((k, v) :: r)

theorem TellT.all {tm1 : TM} {lc : LM} {tm : TM} (h : TellT tm1 lc tm) : ∀ e ∈ tm, ∃ u, tg tm1 e.1 = some u ∧ TLe lc u e.2 := by
  induction h with
  | nil => intro e he; cases he
  | cons h t _ ih =>
    intro e he
    cases he with
    | head => exact ⟨_, h, t⟩
    | tail _ he => exact ih e he

inductive TellL (lc1 : LM) : LM → Prop where
  | nil : TellL lc1 []
  | cons {k : Nat} {u v : List V} {r : LM} (h : lg lc1 k = some u) (t : u = v ∨ CLe u v) (next : TellL lc1 r) : TellL lc1 ((k, v) :: r)

theorem TellL.all {lc1 : LM} {lc : LM} (h : TellL lc1 lc) : ∀ e ∈ lc, ∃ cs, lg lc1 e.1 = some cs ∧ (cs = e.2 ∨ CLe cs e.2) := by
  induction h with
  | nil => intro e he; cases he
  | cons h t _ ih =>
    intro e he
    cases he with
    | head => exact ⟨_, h, t⟩
    | tail _ he => exact ih e he

section
variable {P : Program} {gl : List Nat} {fr : Fr} {QN : S → Prop} {QX : X → S → Prop} {ds : List Nat} {anc : Nat} {hs : List (RI × List RI)} {l : List RI} {r : RI} {tm tm1 tm2 : TM} {df : List AD} {u : Option AMode} {nx : Nat} {ol : OL} {lc lc2 : LM} {es : List ER}

theorem SW.tellR (ht : TellT tm lc2 tm2) (hl : TellL lc lc2) : SW gl fr (SL.toS ⟨tm, df, u, nx, ol, lc⟩) (SL.toS ⟨tm2, df, u, nx, ol, lc2⟩) := SW.tell (s1 := SL.toS ⟨tm, df, u, nx, ol, lc⟩) ht.all hl.all

/-- an element of a list, by its place. -/
theorem ia_at {nt : Nat} {h : H} {x i : RX} {k : IntKind} {n sz : Nat} {es : List (List V)} {c : LC} {cs : List V} (hx : rv gl tm x = some (.lst es c)) (hi : rv gl tm i = some (.int k n)) (hg : es[n]? = some cs) (hl : cs.length = sz) :
    LightR P gl nt tm h (some (.ia x i sz)) (.e cs) := by
  refine lightX_sound ?_
  simp only [lightX, rl, hx, hi, Option.bind_some, asIdx]
  have : ¬ ((n : Int) < 0) := by omega
  simp [this, hg, hl]
end

section
variable {P : Program} {gl : List Nat}
/-- the beginning of a list. -/
theorem slc_take {nt : Nat} {tm : TM} {h : H} {x y : RX} {k : IntKind} {n sz : Nat} {es : List (List V)} (hx : rv gl tm x = some (.lst es .unk)) (hy : rv gl tm y = some (.int k n)) (hn : n ≤ es.length) :
    LightR P gl nt tm h (some (.slc (.slice sz) x none (some y) none)) (.v (.lst (es.take n) .unk)) := by
  refine lightX_sound ?_
  have h1 : rvo gl tm (some y) = some (some (.int k n)) := by simp [rvo, hy]
  have h2 : rvo gl tm none = some none := rfl
  simp only [lightX, rl, hx, h1, h2]
  simp [aslice, nat?, asIdx, LC.cut, hn]
end

theorem og_low : ∀ {ol : OL}, ol.all (fun e => Nat.ble 1000 e.1) = true → ∀ b, b < 1000 → og ol b = none
  | [], _, b, _ => rfl
  | (k, o) :: r, h, b, hb => by
    simp only [List.all_cons, Bool.and_eq_true] at h
    have h1 := Nat.le_of_ble_eq_true h.1
    rw [og_cons, if_neg (by omega)]
    exact og_low h.2 b hb
end Go.VM
