/- The law DiskPlays is true for every script. No condition. -/
import Derived.Test.YtdmpeinbbcjamaaVtPlays
import Derived.Test.YtdmpeinbbcjamaaVmClaim
import Derived.Test.YtdmpeinbbcjamaaRows
import Derived.ChangeMaps5
namespace Go.Proofs.Ytdmpeinbbcjamaa
open Go.ChangeShapes Go.WideShapes Go.ChangeAt Go.RowKit

theorem Try.own : ownKnob Try.prog.godebug = none := by kernel_rfl
theorem Try.flat : VM.flatB Try.prog [3, 9, 29, 31, 23] = true := by kernel_rfl

theorem decodeW {H : Type} (n : Nat) (d : DataW H) (h : VM.TyD Try.prog n 29 d) : ∃ w : VM.Wr, VM.dV d = VM.encW w := by
  obtain ⟨xs, m, rfl, rfl, hx⟩ := h.st Try.underlying29
  cases hx with
  | cons h1 t => cases t with
    | cons h2 t => cases t with
      | cons h3 t =>
        cases t
        obtain ⟨k, rfl, _⟩ := h1.int Try.underlying3
        obtain ⟨a, rfl, _⟩ := h2.int Try.underlying3
        obtain ⟨x, rfl, _⟩ := h3.str Try.underlying9
        exact ⟨⟨k, a, x.map UInt8.toNat⟩, rfl⟩

theorem decodeC {H : Type} (n : Nat) (d : DataW H) (h : VM.TyD Try.prog n 31 d) : ∃ c : VM.Cl, VM.dV d = VM.encC c ∧ c.n < 9223372036854775808 := by
  obtain ⟨xs, m, rfl, rfl, hx⟩ := h.st Try.underlying31
  cases hx with
  | cons h1 t => cases t with
    | cons h2 t => cases t with
      | cons h3 t =>
        cases t
        obtain ⟨k, rfl, _⟩ := h1.int Try.underlying3
        obtain ⟨w, hw⟩ := decodeW m _ h2
        obtain ⟨a, rfl, ha⟩ := h3.int Try.underlying3
        refine ⟨⟨k, w, a⟩, ?_, (VM.wf64 ha).2⟩
        simp only [VM.dV, VM.dVf, hw]
        rfl

set_option maxRecDepth 100000 in
theorem diskPlays_lifted (os : Os) (started : os.Started) (H : Type) (enc : TypeId × Value → H) :
    ReturnsInHanded {} Try.checked os 4 .any (Rows.diskPlaysSpec.pre6 enc Try.prog Try.f4 Rows.diskPlaysRow.domain false) (Rows.diskPlaysSpec.post enc Try.prog Try.f4 false true false false) := by
  refine returnsInHanded_of_change (C := Try.checked) Try.own started (by kernel_rfl) Try.func4
    (ChangeSpec.witness6 (enc := enc) (C := Try.checked) false ⟨#[], #[.slice none 0 0], []⟩ 8 (by kernel_rfl) (by kernel_rfl) (by kernel_rfl) (by kernel_rfl)) ?_
  intro W base args ds gs before hval0 hW hcnd _
  have hval : ∀ (j : Nat) t v, Try.f4.params[j]? = some t → args[j]? = some v → Value.okWide Try.prog W .any base t v := hval0
  have hW' := hW
  obtain ⟨p, q, hA0, hV, rfl, hfz, hnd⟩ := hW
  have hA : DataW.TrodAll enc Try.prog W 0 (fun _ => true) true Try.f4.params.toList args.toList ds p := hA0
  rw [Try.params4] at hA hval
  obtain ⟨v0, d0, rfl, rfl, h0⟩ := trodAll_one hA
  obtain ⟨rfl, rfl⟩ := trodVars_none hV
  obtain ⟨fu0, h0⟩ := h0
  obtain ⟨r0, _, t0⟩ := VM.read_ok Try.flat fu0 _ _ _ (by decide) h0
  have k0 := hval 0 23 v0 rfl rfl
  obtain ⟨cl, hcl, _, hq⟩ := VM.decode_slice decodeC t0 Try.underlying23
  have a0 := VM.arg_slice Try.underlying23 k0 r0 hcl
  refine (VM.calls_of (args' := #[v0]) (VM.plays_spec cl hq VM.h0) (.cons _ _ _ _ a0 .nil)).mono fun e W' ⟨E', v', he, hv, bel⟩ => ?_
  cases hv
  subst he
  exact ⟨_, rfl, ⟨_, _, _, [], _, _, hW', trodAll_mk1 (shut_bool (by kernel_rfl) true), VM.stays_of Try.flat bel (by decide) hW' hA0, hV, bel.frame _, fun h => by cases h⟩⟩

theorem diskPlays_holds : Rows.DiskPlaysSaid :=
  OpenClaim.holds_of_wide 4 Try.f4 rfl rfl rfl rfl rfl rfl rfl ⟨rfl, rfl, rfl, rfl, rfl⟩ rfl rfl rfl rfl rfl (by kernel_rfl) Try.func4 (by kernel_rfl)
    (of_decide_eq_true (by kernel_rfl)) (by unfold Func.isWrapper; first | (rw [if_pos (by decide +kernel)]; kernel_rfl) | (rw [if_neg (by decide +kernel)]; exact ⟨rfl, rfl⟩))
    (fun os started H enc _ => diskPlays_lifted os started H enc)
#print axioms diskPlays_holds
end Go.Proofs.Ytdmpeinbbcjamaa
