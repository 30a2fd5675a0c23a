/- The law DiskReplays is true for every list of writes. No condition. -/
import Derived.Test.YtdmpeinbbcjamaaVtReplays
import Derived.Test.YtdmpeinbbcjamaaVmClaim
import Derived.Test.YtdmpeinbbcjamaaRows
import Derived.ChangeMaps5
namespace Go.Proofs.Ytdmpeinbbcjamaa
open Go.ChangeShapes Go.WideShapes Go.ChangeAt Go.RowKit

theorem Try.own : ownKnob Try.prog.godebug = none := by kernel_rfl
theorem Try.flat : VM.flatB Try.prog [3, 9, 29, 43] = true := by kernel_rfl

theorem decodeW {H : Type} (n : Nat) (d : DataW H) (h : VM.TyD Try.prog n 29 d) : ∃ w : VM.Wr, VM.dV d = VM.encW w ∧ True := by
  obtain ⟨xs, m, rfl, rfl, hx⟩ := h.st Try.underlying29
  cases hx with
  | cons h1 t => cases t with
    | cons h2 t => cases t with
      | cons h3 t =>
        cases t
        obtain ⟨k, rfl, _⟩ := h1.int Try.underlying3
        obtain ⟨a, rfl, _⟩ := h2.int Try.underlying3
        obtain ⟨x, rfl, _⟩ := h3.str Try.underlying9
        exact ⟨⟨k, a, x.map UInt8.toNat⟩, rfl, trivial⟩

set_option maxRecDepth 100000 in
theorem diskReplays_lifted (os : Os) (started : os.Started) (H : Type) (enc : TypeId × Value → H) :
    ReturnsInHanded {} Try.checked os 6 .any (Rows.diskReplaysSpec.pre6 enc Try.prog Try.f6 Rows.diskReplaysRow.domain false) (Rows.diskReplaysSpec.post enc Try.prog Try.f6 false true false false) := by
  refine returnsInHanded_of_change (C := Try.checked) Try.own started (by kernel_rfl) Try.func6
    (ChangeSpec.witness6 (enc := enc) (C := Try.checked) false ⟨#[], #[.slice none 0 0], []⟩ 8 (by kernel_rfl) (by kernel_rfl) (by kernel_rfl) (by kernel_rfl)) ?_
  intro W base args ds gs before hval0 hW hcnd _
  have hval : ∀ (j : Nat) t v, Try.f6.params[j]? = some t → args[j]? = some v → Value.okWide Try.prog W .any base t v := hval0
  have hW' := hW
  obtain ⟨p, q, hA0, hV, rfl, hfz, hnd⟩ := hW
  have hA : DataW.TrodAll enc Try.prog W 0 (fun _ => true) true Try.f6.params.toList args.toList ds p := hA0
  rw [Try.params6] at hA hval
  obtain ⟨v0, d0, rfl, rfl, h0⟩ := trodAll_one hA
  obtain ⟨rfl, rfl⟩ := trodVars_none hV
  obtain ⟨fu, h0⟩ := h0
  obtain ⟨r1, _, r3⟩ := VM.read_ok Try.flat fu _ _ _ (by decide) h0
  obtain ⟨ws, hws, _, _⟩ := VM.decode_slice decodeW r3 Try.underlying43
  have a0 := VM.arg_slice Try.underlying43 (hval 0 43 v0 rfl rfl) r1 hws
  refine (VM.calls_of (args' := #[v0]) (VM.replays_spec ws VM.h0) (.cons _ _ _ _ a0 .nil)).mono fun e W' ⟨E', v', he, hv, bel⟩ => ?_
  cases hv
  subst he
  exact ⟨_, rfl, ⟨_, _, _, [], _, _, hW', trodAll_mk1 (shut_bool (by kernel_rfl) true), VM.stays_of Try.flat bel (by decide) hW' hA0, hV, bel.frame _, fun h => by cases h⟩⟩

theorem diskReplays_holds : Rows.DiskReplaysSaid :=
  OpenClaim.holds_of_wide 6 Try.f6 rfl rfl rfl rfl rfl rfl rfl ⟨rfl, rfl, rfl, rfl, rfl⟩ rfl rfl rfl rfl rfl (by kernel_rfl) Try.func6 (by kernel_rfl)
    (of_decide_eq_true (by kernel_rfl)) (by unfold Func.isWrapper; first | (rw [if_pos (by decide +kernel)]; kernel_rfl) | (rw [if_neg (by decide +kernel)]; exact ⟨rfl, rfl⟩))
    (fun os started H enc _ => diskReplays_lifted os started H enc)
#print axioms diskReplays_holds
end Go.Proofs.Ytdmpeinbbcjamaa
