/- The law ExprxBrackets is true for every text, in every world whose listed variables are as the program lays them. No other condition. -/
import Derived.Test.YtipiffhjilidlaaDoorVg8
import Derived.Test.YtipiffhjilidlaaDoorVmH
import Derived.Test.YtipiffhjilidlaaDoorAwExprxBrackets
import Derived.Test.YtipiffhjilidlaaDoorVbExprxBracketsJe
import Derived.Test.YtipiffhjilidlaaDoorCards
import Derived.Test.YtipiffhjilidlaaDoorTie
import Derived.Test.YtipiffhjilidlaaDoorRows
import Derived.ChangeMaps5
import Derived.ProofKit
import Derived.OpenShut
import Derived.SizedLaws
import Derived.LaidMore
import Derived.Lay
import Derived.SevenTiedAt
import Derived.Stop.Joined
namespace Go.Proofs.YtipiffhjilidlaaDoor
open Go.ChangeShapes Go.WideShapes Go.ChangeAt Go.RowKit
theorem Tryd.flat : VM.flatB Tryd.prog [9] = true := by kernel_rfl
theorem exprxBrackets_laid {W : World} (h : laidMetH Tryd.prog Rows.exprxBracketsRow.laid W) : ∃ c t, W.heap[0]? = some (.cells c t (0, 0)) ∧ c = (VM.spaces.map fun z => Value.int .u8 z).toArray := by
 exact VM.space_laid (t := 92) (e := 5) h (by kernel_rfl) (by kernel_rfl) Tryd.spaceG (by kernel_rfl) (by kernel_rfl) (by kernel_rfl) (by kernel_rfl) (by kernel_rfl) (of_decide_eq_true (by kernel_rfl))
set_option maxRecDepth 100000 in
theorem exprxBrackets_lifted (os : Os) (started : os.Started) (H : Type) (enc : TypeId × Value → H) :
  ReturnsInHanded {} Tryd.checked os 5 .any (fun w args => (Rows.exprxBracketsSpec.pre enc Tryd.prog Tryd.f5 Rows.exprxBracketsRow.domain false w args ∧ laidMetH Tryd.prog Rows.exprxBracketsRow.laid w) ∧ sizedMet enc Tryd.prog Tryd.f5 (OpenSpec.ofChange Rows.exprxBracketsSpec) false w args)
   (Rows.exprxBracketsSpec.post enc Tryd.prog Tryd.f5 false true false false) := by
 refine returnsInHanded_of_change_and (C := Tryd.checked) (X := fun w _ => laidMetH Tryd.prog Rows.exprxBracketsRow.laid w) (fun _ _ _ hh h => h.of_heap hh) Tryd.own started (by kernel_rfl) Tryd.func5
  (ChangeSpec.witness_shaped (enc := enc) (C := Tryd.checked) (os := os) (X := fun w _ => laidMetH Tryd.prog Rows.exprxBracketsRow.laid w) false (World.laidAll Tryd.prog os Rows.exprxBracketsRow.laid) #[.string ByteArray.empty] 8 (World.laidAll_os _ _ _)
   (World.shaped_of_ZipB (by kernel_rfl) (by kernel_rfl)) (by kernel_rfl) (by kernel_rfl) (by kernel_rfl)
   (by rw [MakeChecks.laidMetH_plain _ _ _ (by kernel_rfl)]; exact laidMet_laidAll _ (by kernel_rfl) (by kernel_rfl))) ?_
 intro W base args ds gs before hval0 hW hcnd hsz hL _
 have hval : ∀ (j : Nat) t v, Tryd.f5.params[j]? = some t → args[j]? = some v → Value.okWide Tryd.prog W .any base t v := hval0
 have hW' := hW
 obtain ⟨p, q, hA0, hV, rfl, hfz, hnd⟩ := hW
 have hA : DataW.TrodAll enc Tryd.prog W 0 (fun _ => true) true Tryd.f5.params.toList args.toList ds p := hA0
 rw [Tryd.params5] at hA hval
 obtain ⟨v0, d0, rfl, rfl, h0⟩ := trodAll_one hA
 obtain ⟨rfl, rfl⟩ := trodVars_none hV
 obtain ⟨fu0, h0⟩ := h0
 obtain ⟨r0, _, t0⟩ := VM.read_ok Tryd.flat fu0 _ _ _ (by decide) h0
 have k0 := hval 0 9 v0 rfl rfl
 have sz0 : ∀ w ∈ d0.weights Tryd.prog 9, w ≤ reachBytes := fun w hw => by
  have := List.all_eq_true.1 hsz w (DataW.weights_mem_each (j := 0) (t := 9) (d := d0) (by rw [Tryd.params5]; rfl) rfl w hw)
  simpa using this
 obtain ⟨x0, rfl, _⟩ := t0.str Tryd.underlying9
 have hl0 : (x0.map UInt8.toNat).length ≤ reachBytes := by rw [List.length_map]; exact sz0 _ (by simp [DataW.weights])
 have hl1 : (x0.map UInt8.toNat).length ≤ 200000000000000 := Nat.le_trans hl0 (by unfold reachBytes; decide)
 have a0 := VM.arg_string Tryd.underlying9 k0 r0 rfl
 obtain ⟨c, t, hb, hc⟩ := exprxBrackets_laid hL
 refine (VM.calls_tab (args' := #[v0]) (VM.br_spec (x0.map UInt8.toNat) (fun c hc => by obtain ⟨b, _, rfl⟩ := List.mem_map.1 hc; exact b.toNat_lt) hl1) (by decide) hb hc (.cons _ _ _ _ a0 .nil)).mono fun e W' ⟨E', v', he, hv, bel⟩ => ?_
 cases hv
 subst he
 exact ⟨_, rfl, ⟨_, _, _, [], _, _, hW', trodAll_mk1 (shut_bool (by kernel_rfl) true), VM.stays_of Tryd.flat bel (by decide) hW' hA0, hV, bel.frame _, fun h => by cases h⟩⟩
theorem exprxBrackets_row : Rows.ExprxBracketsSaid :=
 OpenClaim.holds_of_wide 5 Tryd.f5 rfl rfl rfl rfl rfl rfl rfl ⟨rfl, rfl, rfl, rfl, rfl⟩ rfl rfl rfl rfl rfl (by kernel_rfl) Tryd.func5 exprxBrackets_closed
  (of_decide_eq_true (by kernel_rfl)) (by unfold Func.isWrapper; first | (rw [if_pos (by decide +kernel)]; kernel_rfl) | (rw [if_neg (by decide +kernel)]; exact ⟨rfl, rfl⟩))
  (fun os started H enc _ => exprxBrackets_lifted os started H enc)
theorem exprxBrackets_holds : Rows.ExprxBracketsCardSaid :=
 Claim7.holds_tied_plain_at .later [] [.data, .data, .data, .sentinel, .sentinel, .listed, .data] true (true, "4ce60ba05452a857bddc1a541d22ed97cf49483ef16069668c4adeffdd4368ca") true
  exprxBrackets_row (fun _ h => by cases h) (by kernel_rfl) (fun _ h => by cases h) exprxBrackets_row_tie rfl ⟨rfl, rfl⟩ (by kernel_rfl) rfl
  (fun f fn hf hfn => by
   obtain rfl : f = 5 := Option.some.inj ((show Tryd.prog.funcNamed "quoin/quoinlaw04.ExprxBrackets" = some 5 by kernel_rfl).symm.trans hf) |>.symm
   obtain rfl : fn = Tryd.f5 := (Option.some.inj (Tryd.func5.symm.trans hfn)).symm
   exact ⟨by kernel_rfl, fun j t ht => by
    rw [Tryd.params5] at ht
    have : t = 9 := by
     cases j with
     | zero => simpa using ht.symm
     | succ j => simp at ht
    subst this
    show Tryd.prog.wantsStandIn 9 = false
    kernel_rfl⟩)
  (by kernel_rfl)
#print axioms exprxBrackets_holds
end Go.Proofs.YtipiffhjilidlaaDoor
