/- The law StmtxDeep is true for every number and every choice, in every world whose listed variables are as the program lays them. No other condition. -/
import Derived.Test.YtipiffhjilidlaaDoorVh0
import Derived.Test.YtipiffhjilidlaaDoorVmH
import Derived.Test.YtipiffhjilidlaaDoorAwStmtxDeep
import Derived.Test.YtipiffhjilidlaaDoorVbStmtxDeepJe
import Derived.Test.YtipiffhjilidlaaDoorCards
import Derived.Test.YtipiffhjilidlaaDoorTie
import Derived.Test.YtipiffhjilidlaaDoorRows
import Derived.ChangeMaps5
import Derived.ProofKit
import Derived.OpenShut
import Derived.SizedLaws
import Derived.LaidMore
import Derived.Lay
import Derived.SevenTiedAt
import Derived.Stop.Joined
namespace Go.Proofs.YtipiffhjilidlaaDoor
open Go.ChangeShapes Go.WideShapes Go.ChangeAt Go.RowKit
theorem Tryd.flat : VM.flatB Tryd.prog [3, 4] = true := by kernel_rfl
theorem stmtxDeep_laid {W : World} (h : laidMetH Tryd.prog Rows.stmtxDeepRow.laid W) : ∃ c t, W.heap[0]? = some (.cells c t (0, 0)) ∧ c = (VM.spaces.map fun z => Value.int .u8 z).toArray := by
 exact VM.space_laid (t := 92) (e := 5) h (by kernel_rfl) (by kernel_rfl) Tryd.spaceG (by kernel_rfl) (by kernel_rfl) (by kernel_rfl) (by kernel_rfl) (by kernel_rfl) (of_decide_eq_true (by kernel_rfl))
set_option maxRecDepth 100000 in
theorem stmtxDeep_lifted (os : Os) (started : os.Started) (H : Type) (enc : TypeId × Value → H) :
  ReturnsInHanded {} Tryd.checked os 10 .any (fun w args => (Rows.stmtxDeepSpec.pre enc Tryd.prog Tryd.f10 Rows.stmtxDeepRow.domain false w args ∧ laidMetH Tryd.prog Rows.stmtxDeepRow.laid w) ∧ sizedMet enc Tryd.prog Tryd.f10 (OpenSpec.ofChange Rows.stmtxDeepSpec) false w args)
   (Rows.stmtxDeepSpec.post enc Tryd.prog Tryd.f10 false true false false) := by
 refine returnsInHanded_of_change_and (C := Tryd.checked) (X := fun w _ => laidMetH Tryd.prog Rows.stmtxDeepRow.laid w) (fun _ _ _ hh h => h.of_heap hh) Tryd.own started (by kernel_rfl) Tryd.func10
  (ChangeSpec.witness_shaped (enc := enc) (C := Tryd.checked) (os := os) (X := fun w _ => laidMetH Tryd.prog Rows.stmtxDeepRow.laid w) false (World.laidAll Tryd.prog os Rows.stmtxDeepRow.laid) #[.int .i64 0, .bool false] 8 (World.laidAll_os _ _ _)
   (World.shaped_of_ZipB (by kernel_rfl) (by kernel_rfl)) (by kernel_rfl) (by kernel_rfl) (by kernel_rfl)
   (by rw [MakeChecks.laidMetH_plain _ _ _ (by kernel_rfl)]; exact laidMet_laidAll _ (by kernel_rfl) (by kernel_rfl))) ?_
 intro W base args ds gs before hval0 hW hcnd hsz hL _
 have hval : ∀ (j : Nat) t v, Tryd.f10.params[j]? = some t → args[j]? = some v → Value.okWide Tryd.prog W .any base t v := hval0
 have hW' := hW
 obtain ⟨p, q, hA0, hV, rfl, hfz, hnd⟩ := hW
 have hA : DataW.TrodAll enc Tryd.prog W 0 (fun _ => true) true Tryd.f10.params.toList args.toList ds p := hA0
 rw [Tryd.params10] at hA hval
 obtain ⟨v0, v1, d0, d1, p0, p1, rfl, rfl, rfl, h0, h1⟩ := trodAll_two hA
 obtain ⟨rfl, rfl⟩ := trodVars_none hV
 obtain ⟨fu0, h0⟩ := h0
 obtain ⟨r0, _, t0⟩ := VM.read_ok Tryd.flat fu0 _ _ _ (by decide) h0
 have k0 := hval 0 3 v0 rfl rfl
 have sz0 : ∀ w ∈ d0.weights Tryd.prog 3, w ≤ reachBytes := fun w hw => by
  have := List.all_eq_true.1 hsz w (DataW.weights_mem_each (j := 0) (t := 3) (d := d0) (by rw [Tryd.params10]; rfl) rfl w hw)
  simpa using this
 obtain ⟨fu1, h1⟩ := h1
 obtain ⟨r1, _, t1⟩ := VM.read_ok Tryd.flat fu1 _ _ _ (by decide) h1
 have k1 := hval 1 4 v1 rfl rfl
 have sz1 : ∀ w ∈ d1.weights Tryd.prog 4, w ≤ reachBytes := fun w hw => by
  have := List.all_eq_true.1 hsz w (DataW.weights_mem_each (j := 1) (t := 4) (d := d1) (by rw [Tryd.params10]; rfl) rfl w hw)
  simpa using this
 obtain ⟨n0, rfl, hw0⟩ := t0.int Tryd.underlying3
 obtain ⟨b1, rfl⟩ := t1.bool Tryd.underlying4
 have a0 := VM.arg_int Tryd.underlying3 k0 r0 rfl
 have a1 := VM.arg_bool Tryd.underlying4 k1 r1 rfl
 obtain ⟨c, t, hb, hc⟩ := stmtxDeep_laid hL
 refine (VM.calls_tab (args' := #[v0, v1]) (VM.deepS_spec n0 b1 (VM.wf64 hw0).1 (VM.wf64 hw0).2) (by decide) hb hc (.cons _ _ _ _ a0 (.cons _ _ _ _ a1 .nil))).mono fun e W' ⟨E', v', he, hv, bel⟩ => ?_
 cases hv
 subst he
 exact ⟨_, rfl, ⟨_, _, _, [], _, _, hW', trodAll_mk1 (shut_bool (by kernel_rfl) true), VM.stays_of Tryd.flat bel (by decide) hW' hA0, hV, bel.frame _, fun h => by cases h⟩⟩
theorem stmtxDeep_row : Rows.StmtxDeepSaid :=
 OpenClaim.holds_of_wide 10 Tryd.f10 rfl rfl rfl rfl rfl rfl rfl ⟨rfl, rfl, rfl, rfl, rfl⟩ rfl rfl rfl rfl rfl (by kernel_rfl) Tryd.func10 stmtxDeep_closed
  (of_decide_eq_true (by kernel_rfl)) (by unfold Func.isWrapper; first | (rw [if_pos (by decide +kernel)]; kernel_rfl) | (rw [if_neg (by decide +kernel)]; exact ⟨rfl, rfl⟩))
  (fun os started H enc _ => stmtxDeep_lifted os started H enc)
theorem stmtxDeep_holds : Rows.StmtxDeepCardSaid :=
 Claim7.holds_tied_plain_at .later [] [.data, .data, .data, .sentinel, .sentinel, .listed, .data] true (true, "4ce60ba05452a857bddc1a541d22ed97cf49483ef16069668c4adeffdd4368ca") true
  stmtxDeep_row (fun _ h => by cases h) (by kernel_rfl) (fun _ h => by cases h) stmtxDeep_row_tie rfl ⟨rfl, rfl⟩ (by kernel_rfl) rfl
  (fun f fn hf hfn => by
   obtain rfl : f = 10 := Option.some.inj ((show Tryd.prog.funcNamed "quoin/quoinlaw05.StmtxDeep" = some 10 by kernel_rfl).symm.trans hf) |>.symm
   obtain rfl : fn = Tryd.f10 := (Option.some.inj (Tryd.func10.symm.trans hfn)).symm
   exact ⟨by kernel_rfl, fun j t ht => by
    rw [Tryd.params10] at ht
    have : t = 3 ∨ t = 4 := by
     rcases j with _ | _ | j
     ·left; simpa using ht.symm
     ·right; simpa using ht.symm
     ·simp at ht
    rcases this with rfl | rfl
    ·show Tryd.prog.wantsStandIn 3 = false; kernel_rfl
    ·show Tryd.prog.wantsStandIn 4 = false; kernel_rfl⟩)
  (by kernel_rfl)
#print axioms stmtxDeep_holds
end Go.Proofs.YtipiffhjilidlaaDoor
