/- The law CachefileCuts is true for all limits, all lists of keys and all fuses. No condition. -/
import Derived.Test.YtonlemmcdecibaaVg19
import Derived.Test.YtonlemmcdecibaaVmH
import Derived.Test.YtonlemmcdecibaaRows
import Derived.ChangeMaps5
namespace Go.Proofs.Ytonlemmcdecibaa
open Go.ChangeShapes Go.WideShapes Go.ChangeAt Go.RowKit
theorem Try.own : ownKnob Try.prog.godebug = none := by kernel_rfl
theorem Try.flat : VM.flatB Try.prog [3, 9, 32, 52] = true := by kernel_rfl
theorem decodeS {H : Type} (n : Nat) (d : DataW H) (h : VM.TyD Try.prog n 9 d) : ∃ k : List Nat, VM.dV d = VM.kst k ∧ (∀ c ∈ k, c < 256) := by
 obtain ⟨x, rfl, _⟩ := h.str Try.underlying9
 exact ⟨x.map UInt8.toNat, rfl, VM.bytes_lt x⟩
theorem decodeI {H : Type} (n : Nat) (d : DataW H) (h : VM.TyD Try.prog n 3 d) : ∃ k : Int, VM.dV d = VM.icell k ∧ k < 9223372036854775808 := by
 obtain ⟨x, rfl, hx⟩ := h.int Try.underlying3
 exact ⟨x, rfl, (VM.wf64 hx).2⟩
set_option maxRecDepth 100000 in
theorem cachefileCuts_lifted (os : Os) (started : os.Started) (H : Type) (enc : TypeId × Value → H) :
  ReturnsInHanded {} Try.checked os 9 .any (Rows.cachefileCutsSpec.pre6 enc Try.prog Try.f9 Rows.cachefileCutsRow.domain false) (Rows.cachefileCutsSpec.post enc Try.prog Try.f9 false true false false) := by
 refine returnsInHanded_of_change (C := Try.checked) Try.own started (by kernel_rfl) Try.func9
  (ChangeSpec.witness6 (enc := enc) (C := Try.checked) false ⟨#[], #[.int .i64 0, .int .i64 0, .slice none 0 0, .slice none 0 0], []⟩ 8 (by kernel_rfl) (by kernel_rfl) (by kernel_rfl) (by kernel_rfl)) ?_
 intro W base args ds gs before hval0 hW hcnd _
 have hval : ∀ (j : Nat) t v, Try.f9.params[j]? = some t → args[j]? = some v → Value.okWide Try.prog W .any base t v := hval0
 have hW' := hW
 obtain ⟨p, q, hA0, hV, rfl, hfz, hnd⟩ := hW
 have hA : DataW.TrodAll enc Try.prog W 0 (fun _ => true) true Try.f9.params.toList args.toList ds p := hA0
 rw [Try.params9] at hA hval
 obtain ⟨v0, v1, v2, v3, d0, d1, d2, d3, p0, p1, p2, p3, rfl, rfl, rfl, h0, h1, h2, h3⟩ := trodAll_four hA
 obtain ⟨rfl, rfl⟩ := trodVars_none hV
 obtain ⟨fu0, h0⟩ := h0
 obtain ⟨r0, _, t0⟩ := VM.read_ok Try.flat fu0 _ _ _ (by decide) h0
 have k0 := hval 0 3 v0 rfl rfl
 obtain ⟨fu1, h1⟩ := h1
 obtain ⟨r1, _, t1⟩ := VM.read_ok Try.flat fu1 _ _ _ (by decide) h1
 have k1 := hval 1 3 v1 rfl rfl
 obtain ⟨fu2, h2⟩ := h2
 obtain ⟨r2, _, t2⟩ := VM.read_ok Try.flat fu2 _ _ _ (by decide) h2
 have k2 := hval 2 32 v2 rfl rfl
 obtain ⟨fu3, h3⟩ := h3
 obtain ⟨r3, _, t3⟩ := VM.read_ok Try.flat fu3 _ _ _ (by decide) h3
 have k3 := hval 3 52 v3 rfl rfl
 obtain ⟨n0, rfl, hw0⟩ := t0.int Try.underlying3
 obtain ⟨n1, rfl, hw1⟩ := t1.int Try.underlying3
 obtain ⟨l, hl, _, hl8⟩ := VM.decode_slice decodeS t2 Try.underlying32
 obtain ⟨fs, hfs, _, hf8⟩ := VM.decode_slice decodeI t3 Try.underlying52
 have a0 := VM.arg_int Try.underlying3 k0 r0 rfl
 have a1 := VM.arg_int Try.underlying3 k1 r1 rfl
 have a2 := VM.arg_slice Try.underlying32 k2 r2 hl
 have a3 := VM.arg_slice Try.underlying52 k3 r3 hfs
 refine (VM.calls_of (args' := #[v0, v1, v2, v3]) (VM.cuts_core l fs n0 n1 (VM.wf64 hw1).1 (VM.wf64 hw1).2 hf8 hl8 VM.awake_spec) (.cons _ _ _ _ a0 (.cons _ _ _ _ a1 (.cons _ _ _ _ a2 (.cons _ _ _ _ a3 .nil))))).mono fun e W' ⟨E', v', he, hv, bel⟩ => ?_
 cases hv
 subst he
 exact ⟨_, rfl, ⟨_, _, _, [], _, _, hW', trodAll_mk1 (shut_bool (by kernel_rfl) true), VM.stays_of Try.flat bel (by decide) hW' hA0, hV, bel.frame _, fun h => by cases h⟩⟩
theorem cachefileCuts_holds : Rows.CachefileCutsSaid :=
 OpenClaim.holds_of_wide 9 Try.f9 rfl rfl rfl rfl rfl rfl rfl ⟨rfl, rfl, rfl, rfl, rfl⟩ rfl rfl rfl rfl rfl (by kernel_rfl) Try.func9 (by kernel_rfl)
  (of_decide_eq_true (by kernel_rfl)) (by unfold Func.isWrapper; first | (rw [if_pos (by decide +kernel)]; kernel_rfl) | (rw [if_neg (by decide +kernel)]; exact ⟨rfl, rfl⟩))
  (fun os started H enc _ => cachefileCuts_lifted os started H enc)
#print axioms cachefileCuts_holds
end Go.Proofs.Ytonlemmcdecibaa
