/- laid for this seat: AmSound AmUse AmGlob -/
import Derived.Test.YthacfmmgcbjagaaGreatDoorAmD
import Derived.ProofKit
import GoSem.ClaimJoined
import Derived.JoinedTies
import Derived.Lib.LaidTab
import Derived.LaidSub
import Derived.MakeChecks
import Derived.Stop.Joined
section
/- The abstract machine: what it runs, the model runs. -/
set_option linter.unusedVariables false
set_option linter.unusedSimpArgs false
namespace Go.AM
noncomputable section
open Go.RowKit
theorem run_sound {C : Cfg} (pr : PrOk C) : ∀ n, Sound C (run C n)
 | 0 => ⟨fun _ _ _ _ _ h => by simp [run_z] at h, fun _ _ _ _ _ _ _ h => by simp [run_z] at h, fun _ _ _ _ _ _ _ _ _ h => by simp [run_z] at h, fun _ _ _ _ _ _ h => by simp [run_z] at h⟩
 | n + 1 =>
  have S := run_sound pr n
  ⟨fun fr c s x s' h => code_sound pr S (fun _ _ _ _ _ _ h => drawn_sound pr S h) (fun _ _ _ _ _ _ _ _ h => rangeFunc_sound pr S h) (by simp only [run_s] at h; exact h),
   fun f args u h r u' h' hs => call_sound pr S (by simp only [run_s] at hs; exact hs),
   fun fn tm df m u h r u' h' hs => leave_sound pr S (by simp only [run_s] at hs; exact hs),
   fun l args h r u' h' hs => round_sound pr S (by simp only [run_s] at hs; exact hs)⟩
end
end Go.AM
end
section
/- The abstract machine: how a row of a closed law is shut. -/
set_option linter.unusedVariables false
namespace Go.AM
noncomputable section
open Go.RowKit Go.ChangeShapes
def isTrue : M Res → Bool
 | .ok (.e (.ret (.bool true)) _ _) => true
 | _ => false
theorem isTrue_spec {r : M Res} (h : isTrue r = true) : ∃ u h', r = .ok (.e (.ret (.bool true)) u h') := by
 unfold isTrue at h
 split at h
 ·rename_i u h'; exact ⟨u, h', rfl⟩
 ·cases h
def namesB (P : Program) : Bool := P.funcs.toList.all fun fn => !fn.body.isSome || !(fn.name == "runtime.NumGoroutine")
theorem prOk_of {P : Program} (h1 : P.follows .mixedOrders = true) (h2 : namesB P = true) : PrOk ⟨P, [], none⟩ := by
 refine ⟨h1, fun f fn hf hb => ?_, fun i hi => by cases hi⟩
 have := List.all_eq_true.1 h2 fn (by
  have := List.mem_of_getElem? (l := P.funcs.toList) (i := f) (a := fn) (by simpa using hf)
  exact this)
 rw [hb] at this
 simpa using this
end
end Go.AM
end
section
/- The abstract machine: starts whose memory holds one table of integers. -/
set_option linter.unusedVariables false
set_option linter.unusedSimpArgs false
namespace Go.AM
noncomputable section
open Go.RowKit Go.Lib
def hTab (g : Nat) (k : IntKind) (zs : List Int) : H := ⟨glim, T.set fu .leaf g (.cells false (zs.map fun z => .int k z))⟩
def eTab (g n : Nat) : Env := fun x => if x = g then some ⟨g, 0, n⟩ else none
theorem hTab_get {g : Nat} {k : IntKind} {zs : List Int} (hg : g < glim) (x : Nat) : (hTab g k zs).get x = if x = g then some (.cells false (zs.map fun z => .int k z)) else none := by
 unfold hTab H.get
 rw [T.get_set _ _ _ _ _ (fu_lim (Nat.lt_of_lt_of_le hg (by unfold glim AM.lim; decide))), T.get_leaf]
def spaces : List Int := (List.range 256).map fun i => if (9 ≤ i ∧ i ≤ 13) ∨ i = 32 then 1 else 0
theorem space_laid {P : Program} {laid : List (String × DataW Unit)} {W : World} {g : Nat} {t e : TypeId} {zs : List Int} (h : laidMetH P laid W) (hh : (laid.all fun x => x.2.handleName?.isNone) = true)
  (hf : (laid.filter fun x => x.1 == "strings.asciiSpace") = [("strings.asciiSpace", tabData .u8 zs)]) (hg : P.globalNamed "strings.asciiSpace" = some g) (hty : (P.globals[g]?).map (·.type) = some t)
  (ht : P.underlying t = some (.array zs.length e)) (he : P.underlying e = some (.int .u8)) (hce : P.cellsOf e = 1) (hct : P.cellsOf t = zs.length) (hz : 0 < zs.length) :
  ∃ c t, W.heap[g]? = some (.cells c t (0, 0)) ∧ c = (zs.map fun z => Value.int .u8 z).toArray := by
 have h1 := laidMetH.filter (fun x => x.1 == "strings.asciiSpace") h
 rw [hf] at h1
 rw [MakeChecks.laidMetH_plain _ _ _ (by simp [DataW.handleName?, tabData])] at h1
 have hT := tabIs_of_head hg hty ht he hce hct h1
 obtain ⟨ps, ⟨g', t', cs, fuel, p, q, hg', ht', hvar, hd, hv, hps⟩, hnd, hall⟩ := h1
 obtain rfl := Option.some.inj (hg.symm.trans hg')
 unfold TabIs at hT
 have hcs := Option.some.inj (hvar.symm.trans hT)
 obtain ⟨⟨c, t2, hb⟩, _⟩ := hall g 0 (by
  rw [hps, List.mem_append, List.mem_append]
  refine .inl (.inl ?_)
  rw [hcs]
  simp only [MemPlace.row, List.size_toArray, List.length_map]
  simp [hz])
 refine ⟨c, t2, hb, ?_⟩
 unfold World.var? at hT
 rw [hg] at hT
 simp only [Option.bind_some, hb] at hT
 exact Option.some.inj hT
theorem prOk_ib {P : Program} {gl : List Nat} {i : Nat} {fn : Func} (h1 : P.follows .mixedOrders = true) (h2 : namesB P = true) (h3 : P.funcs[i]? = some fn) (h4 : fn.body = none) (h5 : fn.name = "internal/bytealg.IndexByteString") (h6 : Extern.findNext fn = none)
  (h7 : Extern.find fn = some Extern.BytealgIndexByte.indexByte) : PrOk ⟨P, gl, some i⟩ := by
 have hp := prOk_of h1 h2
 refine ⟨hp.mix, hp.names, fun j hj => ?_⟩
 cases hj
 exact ⟨fn, h3, h4, h5, h6, h7⟩
end
end Go.AM
end
