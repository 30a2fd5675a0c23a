/- The law DiskFuses is true for all writes and every fuse. No condition. -/
import Derived.Test.YtdmpeinbbcjamaaVtFuses
import Derived.Test.YtdmpeinbbcjamaaVmClaim
import Derived.Test.YtdmpeinbbcjamaaRows
import Derived.ChangeMaps5
namespace Go.Proofs.Ytdmpeinbbcjamaa
open Go.ChangeShapes Go.WideShapes Go.ChangeAt Go.RowKit

theorem Try.own : ownKnob Try.prog.godebug = none := by kernel_rfl
theorem Try.flat : VM.flatB Try.prog [3, 9, 29, 43] = true := by kernel_rfl

theorem decodeW {H : Type} (n : Nat) (d : DataW H) (h : VM.TyD Try.prog n 29 d) : ∃ w : VM.Wr, VM.dV d = VM.encW w := by
  obtain ⟨xs, m, rfl, rfl, hx⟩ := h.st Try.underlying29
  cases hx with
  | cons h1 t => cases t with
    | cons h2 t => cases t with
      | cons h3 t =>
        cases t
        obtain ⟨k, rfl, _⟩ := h1.int Try.underlying3
        obtain ⟨a, rfl, _⟩ := h2.int Try.underlying3
        obtain ⟨x, rfl, _⟩ := h3.str Try.underlying9
        exact ⟨⟨k, a, x.map UInt8.toNat⟩, rfl⟩

theorem decodeWT {H : Type} (n : Nat) (d : DataW H) (h : VM.TyD Try.prog n 29 d) : ∃ w : VM.Wr, VM.dV d = VM.encW w ∧ True :=
  let ⟨w, hw⟩ := decodeW n d h; ⟨w, hw, trivial⟩

set_option maxRecDepth 100000 in
theorem diskFuses_lifted (os : Os) (started : os.Started) (H : Type) (enc : TypeId × Value → H) :
    ReturnsInHanded {} Try.checked os 7 .any (Rows.diskFusesSpec.pre6 enc Try.prog Try.f7 Rows.diskFusesRow.domain false) (Rows.diskFusesSpec.post enc Try.prog Try.f7 false true false false) := by
  refine returnsInHanded_of_change (C := Try.checked) Try.own started (by kernel_rfl) Try.func7
    (ChangeSpec.witness6 (enc := enc) (C := Try.checked) false ⟨#[], #[.slice none 0 0, .int .i64 0], []⟩ 8 (by kernel_rfl) (by kernel_rfl) (by kernel_rfl) (by kernel_rfl)) ?_
  intro W base args ds gs before hval0 hW hcnd _
  have hval : ∀ (j : Nat) t v, Try.f7.params[j]? = some t → args[j]? = some v → Value.okWide Try.prog W .any base t v := hval0
  have hW' := hW
  obtain ⟨p, q, hA0, hV, rfl, hfz, hnd⟩ := hW
  have hA : DataW.TrodAll enc Try.prog W 0 (fun _ => true) true Try.f7.params.toList args.toList ds p := hA0
  rw [Try.params7] at hA hval
  obtain ⟨v0, v1, d0, d1, p0, p1, rfl, rfl, rfl, h0, h1⟩ := trodAll_two hA
  obtain ⟨rfl, rfl⟩ := trodVars_none hV
  obtain ⟨fu0, h0⟩ := h0
  obtain ⟨r0, _, t0⟩ := VM.read_ok Try.flat fu0 _ _ _ (by decide) h0
  have k0 := hval 0 43 v0 rfl rfl
  obtain ⟨fu1, h1⟩ := h1
  obtain ⟨r1, _, t1⟩ := VM.read_ok Try.flat fu1 _ _ _ (by decide) h1
  have k1 := hval 1 3 v1 rfl rfl
  obtain ⟨l, hl, _, _⟩ := VM.decode_slice decodeWT t0 Try.underlying43
  have a0 := VM.arg_slice Try.underlying43 k0 r0 hl
  obtain ⟨n, rfl, hn⟩ := t1.int Try.underlying3
  have a1 := VM.arg_int Try.underlying3 k1 r1 rfl
  refine (VM.calls_of (args' := #[v0, v1]) (VM.fuses_spec l n (VM.wf64 hn).1 (VM.wf64 hn).2 VM.h0) (.cons _ _ _ _ a0 (.cons _ _ _ _ a1 .nil))).mono fun e W' ⟨E', v', he, hv, bel⟩ => ?_
  cases hv
  subst he
  exact ⟨_, rfl, ⟨_, _, _, [], _, _, hW', trodAll_mk1 (shut_bool (by kernel_rfl) true), VM.stays_of Try.flat bel (by decide) hW' hA0, hV, bel.frame _, fun h => by cases h⟩⟩

theorem diskFuses_holds : Rows.DiskFusesSaid :=
  OpenClaim.holds_of_wide 7 Try.f7 rfl rfl rfl rfl rfl rfl rfl ⟨rfl, rfl, rfl, rfl, rfl⟩ rfl rfl rfl rfl rfl (by kernel_rfl) Try.func7 (by kernel_rfl)
    (of_decide_eq_true (by kernel_rfl)) (by unfold Func.isWrapper; first | (rw [if_pos (by decide +kernel)]; kernel_rfl) | (rw [if_neg (by decide +kernel)]; exact ⟨rfl, rfl⟩))
    (fun os started H enc _ => diskFuses_lifted os started H enc)
#print axioms diskFuses_holds
end Go.Proofs.Ytdmpeinbbcjamaa
