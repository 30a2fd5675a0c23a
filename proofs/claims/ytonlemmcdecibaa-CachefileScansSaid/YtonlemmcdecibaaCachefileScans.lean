/- The law CachefileScans is true for all bytes and all limits. No condition. -/
import Derived.Test.YtonlemmcdecibaaVtLaw3
import Derived.Test.YtonlemmcdecibaaVmH
import Derived.Test.YtonlemmcdecibaaRows
import Derived.ChangeMaps5
namespace Go.Proofs.Ytonlemmcdecibaa
open Go.ChangeShapes Go.WideShapes Go.ChangeAt Go.RowKit
theorem Try.own : ownKnob Try.prog.godebug = none := by kernel_rfl
theorem Try.flat : VM.flatB Try.prog [3, 9] = true := by kernel_rfl
theorem Try.prOk : AM.PrOk ⟨Try.prog, [], none⟩ := AM.prOk_of (by kernel_rfl) (by kernel_rfl)
theorem Try.awake_run : AM.isTrue (AM.run ⟨Try.prog, [], none⟩ 1000 (.call 11 [] none AM.h00)) = true := by kernel_rfl
set_option maxRecDepth 100000 in
theorem cachefileScans_lifted (os : Os) (started : os.Started) (H : Type) (enc : TypeId × Value → H) :
  ReturnsInHanded {} Try.checked os 3 .any (Rows.cachefileScansSpec.pre6 enc Try.prog Try.f3 Rows.cachefileScansRow.domain false) (Rows.cachefileScansSpec.post enc Try.prog Try.f3 false true false false) := by
 refine returnsInHanded_of_change (C := Try.checked) Try.own started (by kernel_rfl) Try.func3
  (ChangeSpec.witness6 (enc := enc) (C := Try.checked) false ⟨#[], #[.string ByteArray.empty, .int .i64 0, .int .i64 0], []⟩ 8 (by kernel_rfl) (by kernel_rfl) (by kernel_rfl) (by kernel_rfl)) ?_
 intro W base args ds gs before hval0 hW hcnd _
 have hval : ∀ (j : Nat) t v, Try.f3.params[j]? = some t → args[j]? = some v → Value.okWide Try.prog W .any base t v := hval0
 have hW' := hW
 obtain ⟨p, q, hA0, hV, rfl, hfz, hnd⟩ := hW
 have hA : DataW.TrodAll enc Try.prog W 0 (fun _ => true) true Try.f3.params.toList args.toList ds p := hA0
 rw [Try.params3] at hA hval
 obtain ⟨v0, v1, v2, d0, d1, d2, p0, p1, p2, rfl, rfl, rfl, h0, h1, h2⟩ := trodAll_three hA
 obtain ⟨rfl, rfl⟩ := trodVars_none hV
 obtain ⟨fu0, h0⟩ := h0
 obtain ⟨r0, _, t0⟩ := VM.read_ok Try.flat fu0 _ _ _ (by decide) h0
 have k0 := hval 0 9 v0 rfl rfl
 obtain ⟨fu1, h1⟩ := h1
 obtain ⟨r1, _, t1⟩ := VM.read_ok Try.flat fu1 _ _ _ (by decide) h1
 have k1 := hval 1 3 v1 rfl rfl
 obtain ⟨fu2, h2⟩ := h2
 obtain ⟨r2, _, t2⟩ := VM.read_ok Try.flat fu2 _ _ _ (by decide) h2
 have k2 := hval 2 3 v2 rfl rfl
 obtain ⟨x0, rfl, _⟩ := t0.str Try.underlying9
 obtain ⟨n1, rfl, hw1⟩ := t1.int Try.underlying3
 obtain ⟨n2, rfl, hw2⟩ := t2.int Try.underlying3
 have a0 := VM.arg_string Try.underlying9 k0 r0 rfl
 have a1 := VM.arg_int Try.underlying3 k1 r1 rfl
 have a2 := VM.arg_int Try.underlying3 k2 r2 rfl
 refine (VM.calls_of (args' := #[v0, v1, v2]) (VM.scans_core (x0.map UInt8.toNat) n1 n2 (VM.bytes_lt x0) (VM.wf64 hw2).1 (VM.wf64 hw2).2 (fun h => by obtain ⟨u, h2, e⟩ := AM.isTrue_spec Try.awake_run; exact VM.SCall.of_am0 Try.prOk e)) (.cons _ _ _ _ a0 (.cons _ _ _ _ a1 (.cons _ _ _ _ a2 .nil)))).mono fun e W' ⟨E', v', he, hv, bel⟩ => ?_
 cases hv
 subst he
 exact ⟨_, rfl, ⟨_, _, _, [], _, _, hW', trodAll_mk1 (shut_bool (by kernel_rfl) true), VM.stays_of Try.flat bel (by decide) hW' hA0, hV, bel.frame _, fun h => by cases h⟩⟩
theorem cachefileScans_holds : Rows.CachefileScansSaid :=
 OpenClaim.holds_of_wide 3 Try.f3 rfl rfl rfl rfl rfl rfl rfl ⟨rfl, rfl, rfl, rfl, rfl⟩ rfl rfl rfl rfl rfl (by kernel_rfl) Try.func3 (by kernel_rfl)
  (of_decide_eq_true (by kernel_rfl)) (by unfold Func.isWrapper; first | (rw [if_pos (by decide +kernel)]; kernel_rfl) | (rw [if_neg (by decide +kernel)]; exact ⟨rfl, rfl⟩))
  (fun os started H enc _ => cachefileScans_lifted os started H enc)
#print axioms cachefileScans_holds
end Go.Proofs.Ytonlemmcdecibaa
