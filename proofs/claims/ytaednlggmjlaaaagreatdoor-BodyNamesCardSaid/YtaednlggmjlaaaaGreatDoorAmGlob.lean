/- The abstract machine: starts whose memory holds one table of integers. -/
import Derived.Test.YtaednlggmjlaaaaGreatDoorAmUse
import Derived.Lib.LaidTab
import Derived.LaidSub
import Derived.MakeChecks
import Derived.Stop.Joined
set_option linter.unusedVariables false
set_option linter.unusedSimpArgs false
namespace Go.AM
noncomputable section
open Go.RowKit Go.Lib

def hTab (g : Nat) (k : IntKind) (zs : List Int) : H := ⟨glim, T.set fu .leaf g (.cells false (zs.map fun z => .int k z))⟩
def eTab (g n : Nat) : Env := fun x => if x = g then some ⟨g, 0, n⟩ else none

theorem hTab_get {g : Nat} {k : IntKind} {zs : List Int} (hg : g < glim) (x : Nat) : (hTab g k zs).get x = if x = g then some (.cells false (zs.map fun z => .int k z)) else none := by
  unfold hTab H.get
  rw [T.get_set _ _ _ _ _ (fu_lim (Nat.lt_of_lt_of_le hg (by unfold glim AM.lim; decide))), T.get_leaf]

theorem MR.tab {w : World} {g : Nat} {k : IntKind} {zs : List Int} {c : Array Value} {t : TypeId} (hg : g < glim) (hb : w.heap[g]? = some (.cells c t (0, 0))) (hc : c = (zs.map fun z => Value.int k z).toArray) : MR (eTab g zs.length) (hTab g k zs) w w := by
  have hE : ∀ b p, eTab g zs.length b = some p → b = g ∧ p = ⟨g, 0, zs.length⟩ := by
    intro b p h
    unfold eTab at h
    split at h
    · rename_i e; cases h; exact ⟨e, rfl⟩
    · cases h
  have hlt : g < w.heap.size := by
    rcases Nat.lt_or_ge g w.heap.size with h | h
    · exact h
    · rw [Array.getElem?_eq_none h] at hb; cases hb
  refine ⟨Below.refl _ _, fun b hb' => ?_, Nat.le_refl _, (by show glim ≤ AM.lim; unfold glim AM.lim; decide), fun b o p ho hp => ?_, fun b o _ ho => ?_, fun b p hb' hp => ?_, fun b p hp => ?_, fun b b' o o' p p' hne ho ho' hp hp' => ?_⟩
  · have hne : b ≠ g := by rintro rfl; exact absurd hb' (Nat.not_le.2 hg)
    exact ⟨by unfold eTab; rw [if_neg hne], by rw [hTab_get hg, if_neg hne]⟩
  · obtain ⟨rfl, rfl⟩ := hE b p hp
    rw [hTab_get hg, if_pos rfl] at ho
    cases ho
    refine ⟨c, t, 0, 0, hb, fun i _ h => by omega, by rw [hc]; simp, by simp, fun i v hv => ?_⟩
    rw [List.getElem?_map] at hv
    cases hz : zs[i]? with
    | none => rw [hz] at hv; cases hv
    | some z =>
      rw [hz] at hv
      cases hv
      exact ⟨rfl, .int k z, by rw [hc]; simp [hz], .int k z⟩
  · rw [hTab_get hg] at ho
    split at ho
    · cases ho; exact ⟨_, _, rfl⟩
    · cases ho
  · obtain ⟨rfl, _⟩ := hE b p hp; exact absurd hb' (Nat.not_le.2 hg)
  · obtain ⟨rfl, rfl⟩ := hE b p hp; exact hlt
  · obtain ⟨rfl, rfl⟩ := hE b p hp
    obtain ⟨rfl, rfl⟩ := hE b' p' hp'
    exact absurd rfl hne

theorem GL.tab {g n : Nat} : GL (eTab g n) [g] := by
  intro x hx
  have : x = g := by simpa using hx
  subst this
  exact ⟨⟨x, 0, n⟩, by unfold eTab; rw [if_pos rfl], rfl, rfl⟩

/-- a call that says yes, over one table. -/
theorem yes_tab {P : Program} {ib : Option Nat} {n f g : Nat} {k : IntKind} {zs : List Int} {args : List V} {args' : Array Value} (pr : PrOk ⟨P, [g], ib⟩) (h : isTrue (run ⟨P, [g], ib⟩ n (.call f args none (hTab g k zs))) = true)
    (ha : ARs (eTab g zs.length) args args'.toList) {w : World} {c : Array Value} {t : TypeId} (hg : g < glim) (hb : w.heap[g]? = some (.cells c t (0, 0))) (hc : c = (zs.map fun z => Value.int k z).toArray) :
    Calls P f args' w fun e w' => e = .returned (.bool true) ∧ Below w.heap.size w w' := by
  obtain ⟨u, h', hr⟩ := isTrue_spec h
  refine Calls.mono (calls_of pr hr (MR.tab hg hb hc) GL.tab ha) ?_
  rintro e w' ⟨E', v', rfl, hv, x, m⟩
  cases hv
  exact ⟨rfl, m.below⟩

/-- the table strings.asciiSpace. -/
def spaces : List Int := (List.range 256).map fun i => if (9 ≤ i ∧ i ≤ 13) ∨ i = 32 then 1 else 0

theorem space_laid {P : Program} {laid : List (String × DataW Unit)} {W : World} {g : Nat} {t e : TypeId} {zs : List Int} (h : laidMetH P laid W) (hh : (laid.all fun x => x.2.handleName?.isNone) = true)
    (hf : (laid.filter fun x => x.1 == "strings.asciiSpace") = [("strings.asciiSpace", tabData .u8 zs)]) (hg : P.globalNamed "strings.asciiSpace" = some g) (hty : (P.globals[g]?).map (·.type) = some t)
    (ht : P.underlying t = some (.array zs.length e)) (he : P.underlying e = some (.int .u8)) (hce : P.cellsOf e = 1) (hct : P.cellsOf t = zs.length) (hz : 0 < zs.length) :
    ∃ c t, W.heap[g]? = some (.cells c t (0, 0)) ∧ c = (zs.map fun z => Value.int .u8 z).toArray := by
  have h1 := laidMetH.filter (fun x => x.1 == "strings.asciiSpace") h
  rw [hf] at h1
  rw [MakeChecks.laidMetH_plain _ _ _ (by simp [DataW.handleName?, tabData])] at h1
  have hT := tabIs_of_head hg hty ht he hce hct h1
  obtain ⟨ps, ⟨g', t', cs, fuel, p, q, hg', ht', hvar, hd, hv, hps⟩, hnd, hall⟩ := h1
  obtain rfl := Option.some.inj (hg.symm.trans hg')
  unfold TabIs at hT
  have hcs := Option.some.inj (hvar.symm.trans hT)
  obtain ⟨⟨c, t2, hb⟩, _⟩ := hall g 0 (by
    rw [hps, List.mem_append, List.mem_append]
    refine .inl (.inl ?_)
    rw [hcs]
    simp only [MemPlace.row, List.size_toArray, List.length_map]
    simp [hz])
  refine ⟨c, t2, hb, ?_⟩
  unfold World.var? at hT
  rw [hg] at hT
  simp only [Option.bind_some, hb] at hT
  exact Option.some.inj hT

theorem prOk_ib {P : Program} {gl : List Nat} {i : Nat} {fn : Func} (h1 : P.follows .mixedOrders = true) (h2 : namesB P = true) (h3 : P.funcs[i]? = some fn) (h4 : fn.body = none) (h5 : fn.name = "internal/bytealg.IndexByteString") (h6 : Extern.findNext fn = none)
    (h7 : Extern.find fn = some Extern.BytealgIndexByte.indexByte) : PrOk ⟨P, gl, some i⟩ := by
  have hp := prOk_of h1 h2
  refine ⟨hp.mix, hp.names, fun j hj => ?_⟩
  cases hj
  exact ⟨fn, h3, h4, h5, h6, h7⟩
end
end Go.AM
