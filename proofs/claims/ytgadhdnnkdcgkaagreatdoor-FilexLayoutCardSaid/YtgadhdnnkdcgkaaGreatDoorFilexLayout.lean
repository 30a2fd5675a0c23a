/- The law FilexLayout is true for every text, in every world whose listed variables are as the program lays them. No other condition. -/
import Derived.Test.YtgadhdnnkdcgkaaGreatDoorVi4
import Derived.Test.YtgadhdnnkdcgkaaGreatDoorVmH
import Derived.Test.YtgadhdnnkdcgkaaGreatDoorAwFilexLayout
import Derived.Test.YtgadhdnnkdcgkaaGreatDoorVbFilexLayoutJe
import Derived.Test.YtgadhdnnkdcgkaaGreatDoorCards
import Derived.Test.YtgadhdnnkdcgkaaGreatDoorTie
import Derived.Test.YtgadhdnnkdcgkaaGreatDoorRows
import Derived.ChangeMaps5
import Derived.ProofKit
import Derived.OpenShut
import Derived.SizedLaws
import Derived.LaidMore
import Derived.Lay
import Derived.SevenTiedAt
import Derived.Stop.Joined
set_option linter.unusedVariables false
set_option linter.unusedSimpArgs false
namespace Go.Proofs.YtgadhdnnkdcgkaaGreatDoor
open Go.ChangeShapes Go.WideShapes Go.ChangeAt Go.RowKit
theorem Tryz.flat:VM.vT Tryz.prog [9]=true:=by kernel_rfl
theorem filexLayout_laid{W:World}(h:laidMetH Tryz.prog Rows.filexLayoutRow.laid W):∃c t,W.heap[0]? =some (.cells c t (0,0))∧c=(VM.zJ.map fun z=>Value.int .u8 z).toArray:=by
 exact VM.aMd (t:=117) (e:=5) h (by kernel_rfl) (by kernel_rfl) Tryz.spaceG (by kernel_rfl) (by kernel_rfl) (by kernel_rfl) (by kernel_rfl) (by kernel_rfl) (of_decide_eq_true (by kernel_rfl))
set_option maxRecDepth 100000 in
theorem filexLayout_lifted(os:Os)(started:os.Started)(H:Type)(enc:TypeId×Value→H):
  ReturnsInHanded {} Tryz.checked os 5 .any (fun w args=>(Rows.filexLayoutSpec.pre enc Tryz.prog Tryz.f5 Rows.filexLayoutRow.domain false w args∧laidMetH Tryz.prog Rows.filexLayoutRow.laid w)∧sizedMet enc Tryz.prog Tryz.f5 (OpenSpec.ofChange Rows.filexLayoutSpec) false w args)
   (Rows.filexLayoutSpec.post enc Tryz.prog Tryz.f5 false true false false):=by
 refine returnsInHanded_of_change_and (C:=Tryz.checked) (X:=fun w _=>laidMetH Tryz.prog Rows.filexLayoutRow.laid w) (fun _ _ _ hh h=>h.of_heap hh) Tryz.own started (by kernel_rfl) Tryz.func5
  (ChangeSpec.witness_shaped (enc:=enc) (C:=Tryz.checked) (os:=os) (X:=fun w _=>laidMetH Tryz.prog Rows.filexLayoutRow.laid w) false (World.laidAll Tryz.prog os Rows.filexLayoutRow.laid) #[.string ByteArray.empty] 8 (World.laidAll_os _ _ _)
   (World.shaped_of_ZipB (by kernel_rfl) (by kernel_rfl)) (by kernel_rfl) (by kernel_rfl) (by kernel_rfl)
   (by rw[MakeChecks.laidMetH_plain _ _ _ (by kernel_rfl)];exact laidMet_laidAll _ (by kernel_rfl) (by kernel_rfl))) ?_
 intro W base args ds gs before hval0 hW hcnd hsz hL _
 have hval:∀(j:Nat) t v,Tryz.f5.params[j]? =some t→args[j]? =some v→Value.okWide Tryz.prog W .any base t v:=hval0
 have hW':=hW
 obtain⟨p,q,hA0,hV,rfl,hfz,hnd⟩:=hW
 have hA:DataW.TrodAll enc Tryz.prog W 0 (fun _=>true) true Tryz.f5.params.toList args.toList ds p:=hA0
 rw[Tryz.params5]at hA hval
 obtain⟨v0,d0,rfl,rfl,h0⟩:=trodAll_one hA
 obtain⟨rfl,rfl⟩:=trodVars_none hV
 obtain⟨fu0,h0⟩:=h0
 obtain⟨r0,_,t0⟩:=VM.bDc Tryz.flat fu0 _ _ _ (by decide) h0
 have k0:=hval 0 9 v0 rfl rfl
 have sz0:∀w∈d0.weights Tryz.prog 9,w≤reachBytes:=fun w hw=>by
  have:=List.all_eq_true.1 hsz w (DataW.weights_mem_each (j:=0) (t:=9) (d:=d0) (by rw[Tryz.params5];rfl) rfl w hw)
  simpa using this
 obtain⟨x0,rfl,_⟩:=t0.str Tryz.underlying9
 have hl0:(x0.map UInt8.toNat).length≤reachBytes:=by rw[List.length_map];exact sz0 _ (by simp[DataW.weights])
 have hl1:(x0.map UInt8.toNat).length<VM.big:=Nat.lt_of_le_of_lt hl0 (by decide)
 have a0:=VM.aLc Tryz.underlying9 k0 r0 rfl
 obtain⟨c,t,hb,hc⟩:=filexLayout_laid hL
 refine(VM.aRu (args':= #[v0]) (VM.aFv (x0.map UInt8.toNat) (fun c hc=>by obtain⟨b,_,rfl⟩:=List.mem_map.1 hc;exact b.toNat_lt) hl1) (by decide) hb hc (.cons _ _ _ _ a0 .nil)).mono fun e W' ⟨E',v',he,hv,bel⟩=>?_
 cases hv
 subst he
 exact⟨_,rfl,⟨_,_,_,[],_,_,hW',trodAll_mk1 (shut_bool (by kernel_rfl) true),VM.aUh Tryz.flat bel (by decide) hW' hA0,hV,bel.frame _,fun h=>by cases h⟩⟩
theorem filexLayout_row:Rows.FilexLayoutSaid:=
 OpenClaim.holds_of_wide 5 Tryz.f5 rfl rfl rfl rfl rfl rfl rfl ⟨rfl,rfl,rfl,rfl,rfl⟩ rfl rfl rfl rfl rfl (by kernel_rfl) Tryz.func5 filexLayout_closed
  (of_decide_eq_true (by kernel_rfl)) (by unfold Func.isWrapper;first|(rw[if_pos (by decide+kernel)];kernel_rfl)|(rw[if_neg (by decide+kernel)];exact⟨rfl,rfl⟩))
  (fun os started H enc _=>filexLayout_lifted os started H enc)
theorem filexLayout_holds:Rows.FilexLayoutCardSaid:=
 Claim7.holds_tied_plain_at .later [] [.data,.data,.data,.sentinel,.sentinel,.listed,.data] true (true, "0d5ff05acc51def3eacaac4c212bad8f7e61e48271c4870319daa60b81a99719") true
  filexLayout_row (fun _ h=>by cases h) (by kernel_rfl) (fun _ h=>by cases h) filexLayout_row_tie rfl ⟨rfl,rfl⟩ (by kernel_rfl) rfl
  (fun f fn hf hfn=>by
   obtain rfl:f=5:=Option.some.inj ((show Tryz.prog.funcNamed "quoin/quoinlaw06.FilexLayout" =some 5 by kernel_rfl).symm.trans hf)|>.symm
   obtain rfl:fn=Tryz.f5:=(Option.some.inj (Tryz.func5.symm.trans hfn)).symm
   exact⟨by kernel_rfl,fun j t ht=>by
    rw[Tryz.params5]at ht
    have:t=9:=by
     cases j with
     |zero=>simpa using ht.symm
     |succ j=>simp at ht
    subst this
    show Tryz.prog.wantsStandIn 9=false
    kernel_rfl⟩)
  (by kernel_rfl)
#print axioms filexLayout_holds
end Go.Proofs.YtgadhdnnkdcgkaaGreatDoor
