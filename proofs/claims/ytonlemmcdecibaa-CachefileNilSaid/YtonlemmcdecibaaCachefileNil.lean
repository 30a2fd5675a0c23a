/- The law CachefileNil is true for every string: calls on none answer ErrArg, or nothing. No condition. -/
import Derived.Test.YtonlemmcdecibaaAmUse
import Derived.Test.YtonlemmcdecibaaRows
import Derived.ChangeMaps5
namespace Go.Proofs.Ytonlemmcdecibaa
open Go.ChangeShapes Go.WideShapes Go.ChangeAt Go.RowKit
open Go.ChangeMaps (open_string shut_string)

theorem Try.own : ownKnob Try.prog.godebug = none := by kernel_rfl
theorem Try.prOk : AM.PrOk ⟨Try.prog, [], none⟩ := AM.prOk_of (by kernel_rfl) (by kernel_rfl)
theorem Try.nil_run (b : List Nat) : AM.isTrue (AM.run ⟨Try.prog, [], none⟩ 1000 (.call 6 [.str b] none AM.h00)) = true := by kernel_rfl

set_option maxRecDepth 100000 in
theorem cachefileNil_lifted (os : Os) (started : os.Started) (H : Type) (enc : TypeId × Value → H) :
    ReturnsInHanded {} Try.checked os 6 .any (Rows.cachefileNilSpec.pre6 enc Try.prog Try.f6 Rows.cachefileNilRow.domain false) (Rows.cachefileNilSpec.post enc Try.prog Try.f6 false true false false) := by
  refine returnsInHanded_of_change (C := Try.checked) Try.own started (by kernel_rfl) Try.func6
    (ChangeSpec.witness6 (enc := enc) (C := Try.checked) false ⟨#[], #[.string ByteArray.empty], []⟩ 8 (by kernel_rfl) (by kernel_rfl) (by kernel_rfl) (by kernel_rfl)) ?_
  intro W base args ds gs before hval0 hW hcnd _
  have hval : ∀ (j : Nat) t v, Try.f6.params[j]? = some t → args[j]? = some v → Value.okWide Try.prog W .any base t v := hval0
  have hW' := hW
  obtain ⟨p, q, hA0, hV, rfl, hfz, hnd⟩ := hW
  have hA : DataW.TrodAll enc Try.prog W 0 (fun _ => true) true Try.f6.params.toList args.toList ds p := hA0
  rw [Try.params6] at hA hval
  obtain ⟨v0, d0, rfl, rfl, h0⟩ := trodAll_one hA
  obtain ⟨rfl, rfl⟩ := trodVars_none hV
  obtain ⟨s, rfl, rfl, rfl, ws⟩ := open_string Try.underlying9 (hval 0 9 v0 rfl rfl) h0
  clear hA0 hval0
  simp only [List.append_nil] at hW'
  refine (AM.yes_args (args' := #[.string s]) Try.prOk (Try.nil_run (s.data.toList.map UInt8.toNat)) (.cons _ _ _ _ (.str _ s rfl) .nil) W).mono fun e W' ⟨he, bel⟩ => ?_
  subst he
  exact ⟨_, rfl, ⟨_, _, _, [], [], [], hW', trodAll_mk1 (shut_bool (by kernel_rfl) true), trodAll_mk1 (shut_string Try.underlying9 ws), hV, bel.frame _, fun h => by cases h⟩⟩

theorem cachefileNil_holds : Rows.CachefileNilSaid :=
  OpenClaim.holds_of_wide 6 Try.f6 rfl rfl rfl rfl rfl rfl rfl ⟨rfl, rfl, rfl, rfl, rfl⟩ rfl rfl rfl rfl rfl (by kernel_rfl) Try.func6 (by kernel_rfl)
    (of_decide_eq_true (by kernel_rfl)) (by unfold Func.isWrapper; first | (rw [if_pos (by decide +kernel)]; kernel_rfl) | (rw [if_neg (by decide +kernel)]; exact ⟨rfl, rfl⟩))
    (fun os started H enc _ => cachefileNil_lifted os started H enc)
#print axioms cachefileNil_holds
end Go.Proofs.Ytonlemmcdecibaa
