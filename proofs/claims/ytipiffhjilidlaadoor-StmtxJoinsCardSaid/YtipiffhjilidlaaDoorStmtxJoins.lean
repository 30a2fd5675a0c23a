/- The law StmtxJoins is true for every two texts, in every world whose listed variables are as the program lays them. No other condition. -/
import Derived.Test.YtipiffhjilidlaaDoorVh1
import Derived.Test.YtipiffhjilidlaaDoorVmH
import Derived.Test.YtipiffhjilidlaaDoorAwStmtxJoins
import Derived.Test.YtipiffhjilidlaaDoorVbStmtxJoinsJe
import Derived.Test.YtipiffhjilidlaaDoorCards
import Derived.Test.YtipiffhjilidlaaDoorTie
import Derived.Test.YtipiffhjilidlaaDoorRows
import Derived.ChangeMaps5
import Derived.ProofKit
import Derived.OpenShut
import Derived.SizedLaws
import Derived.LaidMore
import Derived.Lay
import Derived.SevenTiedAt
import Derived.Stop.Joined
namespace Go.Proofs.YtipiffhjilidlaaDoor
open Go.ChangeShapes Go.WideShapes Go.ChangeAt Go.RowKit
theorem Tryd.flat : VM.sP Tryd.prog [9] = true := by kernel_rfl
theorem stmtxJoins_laid {W : World} (h : laidMetH Tryd.prog Rows.stmtxJoinsRow.laid W) : ∃ c t, W.heap[0]? = some (.cells c t (0, 0)) ∧ c = (VM.yT.map fun z => Value.int .u8 z).toArray := by
 exact VM.aDo (t := 92) (e := 5) h (by kernel_rfl) (by kernel_rfl) Tryd.spaceG (by kernel_rfl) (by kernel_rfl) (by kernel_rfl) (by kernel_rfl) (by kernel_rfl) (of_decide_eq_true (by kernel_rfl))
set_option maxRecDepth 100000 in
theorem stmtxJoins_lifted (os : Os) (started : os.Started) (H : Type) (enc : TypeId × Value → H) :
  ReturnsInHanded {} Tryd.checked os 9 .any (fun w args => (Rows.stmtxJoinsSpec.pre enc Tryd.prog Tryd.f9 Rows.stmtxJoinsRow.domain false w args ∧ laidMetH Tryd.prog Rows.stmtxJoinsRow.laid w) ∧ sizedMet enc Tryd.prog Tryd.f9 (OpenSpec.ofChange Rows.stmtxJoinsSpec) false w args)
   (Rows.stmtxJoinsSpec.post enc Tryd.prog Tryd.f9 false true false false) := by
 refine returnsInHanded_of_change_and (C := Tryd.checked) (X := fun w _ => laidMetH Tryd.prog Rows.stmtxJoinsRow.laid w) (fun _ _ _ hh h => h.of_heap hh) Tryd.own started (by kernel_rfl) Tryd.func9
  (ChangeSpec.witness_shaped (enc := enc) (C := Tryd.checked) (os := os) (X := fun w _ => laidMetH Tryd.prog Rows.stmtxJoinsRow.laid w) false (World.laidAll Tryd.prog os Rows.stmtxJoinsRow.laid) #[.string ByteArray.empty, .string ByteArray.empty] 8 (World.laidAll_os _ _ _)
   (World.shaped_of_ZipB (by kernel_rfl) (by kernel_rfl)) (by kernel_rfl) (by kernel_rfl) (by kernel_rfl)
   (by rw [MakeChecks.laidMetH_plain _ _ _ (by kernel_rfl)]; exact laidMet_laidAll _ (by kernel_rfl) (by kernel_rfl))) ?_
 intro W base args ds gs before hval0 hW hcnd hsz hL _
 have hval : ∀ (j : Nat) t v, Tryd.f9.params[j]? = some t → args[j]? = some v → Value.okWide Tryd.prog W .any base t v := hval0
 have hW' := hW
 obtain ⟨p, q, hA0, hV, rfl, hfz, hnd⟩ := hW
 have hA : DataW.TrodAll enc Tryd.prog W 0 (fun _ => true) true Tryd.f9.params.toList args.toList ds p := hA0
 rw [Tryd.params9] at hA hval
 obtain ⟨v0, v1, d0, d1, p0, p1, rfl, rfl, rfl, h0, h1⟩ := trodAll_two hA
 obtain ⟨rfl, rfl⟩ := trodVars_none hV
 obtain ⟨fu0, h0⟩ := h0
 obtain ⟨r0, _, t0⟩ := VM.aIm Tryd.flat fu0 _ _ _ (by decide) h0
 have k0 := hval 0 9 v0 rfl rfl
 have sz0 : ∀ w ∈ d0.weights Tryd.prog 9, w ≤ reachBytes := fun w hw => by
  have := List.all_eq_true.1 hsz w (DataW.weights_mem_each (j := 0) (t := 9) (d := d0) (by rw [Tryd.params9]; rfl) rfl w hw)
  simpa using this
 obtain ⟨fu1, h1⟩ := h1
 obtain ⟨r1, _, t1⟩ := VM.aIm Tryd.flat fu1 _ _ _ (by decide) h1
 have k1 := hval 1 9 v1 rfl rfl
 have sz1 : ∀ w ∈ d1.weights Tryd.prog 9, w ≤ reachBytes := fun w hw => by
  have := List.all_eq_true.1 hsz w (DataW.weights_mem_each (j := 1) (t := 9) (d := d1) (by rw [Tryd.params9]; rfl) rfl w hw)
  simpa using this
 obtain ⟨x0, rfl, _⟩ := t0.str Tryd.underlying9
 obtain ⟨x1, rfl, _⟩ := t1.str Tryd.underlying9
 have a0 := VM.vL Tryd.underlying9 k0 r0 rfl
 have a1 := VM.vL Tryd.underlying9 k1 r1 rfl
 obtain ⟨c, t, hb, hc⟩ := stmtxJoins_laid hL
 refine (VM.aKj (args' := #[v0, v1]) (VM.aDx (x0.map UInt8.toNat) (x1.map UInt8.toNat) (fun c hc => by obtain ⟨b, _, rfl⟩ := List.mem_map.1 hc; exact b.toNat_lt) (fun c hc => by obtain ⟨b, _, rfl⟩ := List.mem_map.1 hc; exact b.toNat_lt)) (by decide) hb hc (.cons _ _ _ _ a0 (.cons _ _ _ _ a1 .nil))).mono fun e W' ⟨E', v', he, hv, bel⟩ => ?_
 cases hv
 subst he
 exact ⟨_, rfl, ⟨_, _, _, [], _, _, hW', trodAll_mk1 (shut_bool (by kernel_rfl) true), VM.aPr Tryd.flat bel (by decide) hW' hA0, hV, bel.frame _, fun h => by cases h⟩⟩
theorem stmtxJoins_row : Rows.StmtxJoinsSaid :=
 OpenClaim.holds_of_wide 9 Tryd.f9 rfl rfl rfl rfl rfl rfl rfl ⟨rfl, rfl, rfl, rfl, rfl⟩ rfl rfl rfl rfl rfl (by kernel_rfl) Tryd.func9 stmtxJoins_closed
  (of_decide_eq_true (by kernel_rfl)) (by unfold Func.isWrapper; first | (rw [if_pos (by decide +kernel)]; kernel_rfl) | (rw [if_neg (by decide +kernel)]; exact ⟨rfl, rfl⟩))
  (fun os started H enc _ => stmtxJoins_lifted os started H enc)
theorem stmtxJoins_holds : Rows.StmtxJoinsCardSaid :=
 Claim7.holds_tied_plain_at .later [] [.data, .data, .data, .sentinel, .sentinel, .listed, .data] true (true, "4ce60ba05452a857bddc1a541d22ed97cf49483ef16069668c4adeffdd4368ca") true
  stmtxJoins_row (fun _ h => by cases h) (by kernel_rfl) (fun _ h => by cases h) stmtxJoins_row_tie rfl ⟨rfl, rfl⟩ (by kernel_rfl) rfl
  (fun f fn hf hfn => by
   obtain rfl : f = 9 := Option.some.inj ((show Tryd.prog.funcNamed "quoin/quoinlaw05.StmtxJoins" = some 9 by kernel_rfl).symm.trans hf) |>.symm
   obtain rfl : fn = Tryd.f9 := (Option.some.inj (Tryd.func9.symm.trans hfn)).symm
   exact ⟨by kernel_rfl, fun j t ht => by
    rw [Tryd.params9] at ht
    have : t = 9 ∨ t = 9 := by
     rcases j with _ | _ | j
     ·left; simpa using ht.symm
     ·right; simpa using ht.symm
     ·simp at ht
    rcases this with rfl | rfl
    ·show Tryd.prog.wantsStandIn 9 = false; kernel_rfl
    ·show Tryd.prog.wantsStandIn 9 = false; kernel_rfl⟩)
  (by kernel_rfl)
#print axioms stmtxJoins_holds
end Go.Proofs.YtipiffhjilidlaaDoor
