/- The law FilexMore is true for every text and every number, in every world whose listed variables are as the program lays them. No other condition. -/
import Derived.Test.YtgadhdnnkdcgkaaGreatDoorVi0
import Derived.Test.YtgadhdnnkdcgkaaGreatDoorVmH
import Derived.Test.YtgadhdnnkdcgkaaGreatDoorAwFilexMore
import Derived.Test.YtgadhdnnkdcgkaaGreatDoorVbFilexMoreJe
import Derived.Test.YtgadhdnnkdcgkaaGreatDoorCards
import Derived.Test.YtgadhdnnkdcgkaaGreatDoorTie
import Derived.Test.YtgadhdnnkdcgkaaGreatDoorRows
import Derived.ChangeMaps5
import Derived.ProofKit
import Derived.OpenShut
import Derived.SizedLaws
import Derived.LaidMore
import Derived.Lay
import Derived.SevenTiedAt
import Derived.Stop.Joined
set_option linter.unusedVariables false
set_option linter.unusedSimpArgs false
namespace Go.Proofs.YtgadhdnnkdcgkaaGreatDoor
open Go.ChangeShapes Go.WideShapes Go.ChangeAt Go.RowKit
theorem Tryz.flat:VM.wD Tryz.prog [3,9]=true:=by kernel_rfl
theorem filexMore_laid{W:World}(h:laidMetH Tryz.prog Rows.filexMoreRow.laid W):∃c t,W.heap[0]? =some (.cells c t (0,0))∧c=(VM.aDy.map fun z=>Value.int .u8 z).toArray:=by
 exact VM.aJy (t:=117) (e:=5) h (by kernel_rfl) (by kernel_rfl) Tryz.spaceG (by kernel_rfl) (by kernel_rfl) (by kernel_rfl) (by kernel_rfl) (by kernel_rfl) (of_decide_eq_true (by kernel_rfl))
set_option maxRecDepth 100000 in
theorem filexMore_lifted(os:Os)(started:os.Started)(H:Type)(enc:TypeId×Value→H):
  ReturnsInHanded {} Tryz.checked os 6 .any (fun w args=>(Rows.filexMoreSpec.pre enc Tryz.prog Tryz.f6 Rows.filexMoreRow.domain false w args∧laidMetH Tryz.prog Rows.filexMoreRow.laid w)∧sizedMet enc Tryz.prog Tryz.f6 (OpenSpec.ofChange Rows.filexMoreSpec) false w args)
   (Rows.filexMoreSpec.post enc Tryz.prog Tryz.f6 false true false false):=by
 refine returnsInHanded_of_change_and (C:=Tryz.checked) (X:=fun w _=>laidMetH Tryz.prog Rows.filexMoreRow.laid w) (fun _ _ _ hh h=>h.of_heap hh) Tryz.own started (by kernel_rfl) Tryz.func6
  (ChangeSpec.witness_shaped (enc:=enc) (C:=Tryz.checked) (os:=os) (X:=fun w _=>laidMetH Tryz.prog Rows.filexMoreRow.laid w) false (World.laidAll Tryz.prog os Rows.filexMoreRow.laid) #[.string ByteArray.empty,.int .i64 0] 8 (World.laidAll_os _ _ _)
   (World.shaped_of_ZipB (by kernel_rfl) (by kernel_rfl)) (by kernel_rfl) (by kernel_rfl) (by kernel_rfl)
   (by rw[MakeChecks.laidMetH_plain _ _ _ (by kernel_rfl)];exact laidMet_laidAll _ (by kernel_rfl) (by kernel_rfl))) ?_
 intro W base args ds gs before hval0 hW hcnd hsz hL _
 have hval:∀(j:Nat) t v,Tryz.f6.params[j]? =some t→args[j]? =some v→Value.okWide Tryz.prog W .any base t v:=hval0
 have hW':=hW
 obtain⟨p,q,hA0,hV,rfl,hfz,hnd⟩:=hW
 have hA:DataW.TrodAll enc Tryz.prog W 0 (fun _=>true) true Tryz.f6.params.toList args.toList ds p:=hA0
 rw[Tryz.params6]at hA hval
 obtain⟨v0,v1,d0,d1,p0,p1,rfl,rfl,rfl,h0,h1⟩:=trodAll_two hA
 obtain⟨rfl,rfl⟩:=trodVars_none hV
 obtain⟨fu0,h0⟩:=h0
 obtain⟨r0,_,t0⟩:=VM.aOs Tryz.flat fu0 _ _ _ (by decide) h0
 have k0:=hval 0 9 v0 rfl rfl
 have sz0:∀w∈d0.weights Tryz.prog 9,w≤reachBytes:=fun w hw=>by
  have:=List.all_eq_true.1 hsz w (DataW.weights_mem_each (j:=0) (t:=9) (d:=d0) (by rw[Tryz.params6];rfl) rfl w hw)
  simpa using this
 obtain⟨fu1,h1⟩:=h1
 obtain⟨r1,_,t1⟩:=VM.aOs Tryz.flat fu1 _ _ _ (by decide) h1
 have k1:=hval 1 3 v1 rfl rfl
 have sz1:∀w∈d1.weights Tryz.prog 3,w≤reachBytes:=fun w hw=>by
  have:=List.all_eq_true.1 hsz w (DataW.weights_mem_each (j:=1) (t:=3) (d:=d1) (by rw[Tryz.params6];rfl) rfl w hw)
  simpa using this
 obtain⟨x0,rfl,_⟩:=t0.str Tryz.underlying9
 have hl0:(x0.map UInt8.toNat).length≤reachBytes:=by rw[List.length_map];exact sz0 _ (by simp[DataW.weights])
 have hl1:(x0.map UInt8.toNat).length<VM.big:=Nat.lt_of_le_of_lt hl0 (by decide)
 obtain⟨x1,rfl,_⟩:=t1.int Tryz.underlying3
 have a0:=VM.aJp Tryz.underlying9 k0 r0 rfl
 have a1:=VM.bBp Tryz.underlying3 k1 r1 rfl
 obtain⟨c,t,hb,hc⟩:=filexMore_laid hL
 refine(VM.aRl (args':= #[v0,v1]) (VM.aSb (x0.map UInt8.toNat) x1 (fun c hc=>by obtain⟨b,_,rfl⟩:=List.mem_map.1 hc;exact b.toNat_lt) hl1) (by decide) hb hc (.cons _ _ _ _ a0 (.cons _ _ _ _ a1 .nil))).mono fun e W' ⟨E',v',he,hv,bel⟩=>?_
 cases hv
 subst he
 exact⟨_,rfl,⟨_,_,_,[],_,_,hW',trodAll_mk1 (shut_bool (by kernel_rfl) true),VM.aUa Tryz.flat bel (by decide) hW' hA0,hV,bel.frame _,fun h=>by cases h⟩⟩
theorem filexMore_row:Rows.FilexMoreSaid:=
 OpenClaim.holds_of_wide 6 Tryz.f6 rfl rfl rfl rfl rfl rfl rfl ⟨rfl,rfl,rfl,rfl,rfl⟩ rfl rfl rfl rfl rfl (by kernel_rfl) Tryz.func6 filexMore_closed
  (of_decide_eq_true (by kernel_rfl)) (by unfold Func.isWrapper;first|(rw[if_pos (by decide+kernel)];kernel_rfl)|(rw[if_neg (by decide+kernel)];exact⟨rfl,rfl⟩))
  (fun os started H enc _=>filexMore_lifted os started H enc)
theorem filexMore_holds:Rows.FilexMoreCardSaid:=
 Claim7.holds_tied_plain_at .later [] [.data,.data,.data,.sentinel,.sentinel,.listed,.data] true (true, "0d5ff05acc51def3eacaac4c212bad8f7e61e48271c4870319daa60b81a99719") true
  filexMore_row (fun _ h=>by cases h) (by kernel_rfl) (fun _ h=>by cases h) filexMore_row_tie rfl ⟨rfl,rfl⟩ (by kernel_rfl) rfl
  (fun f fn hf hfn=>by
   obtain rfl:f=6:=Option.some.inj ((show Tryz.prog.funcNamed "quoin/quoinlaw06.FilexMore" =some 6 by kernel_rfl).symm.trans hf)|>.symm
   obtain rfl:fn=Tryz.f6:=(Option.some.inj (Tryz.func6.symm.trans hfn)).symm
   exact⟨by kernel_rfl,fun j t ht=>by
    rw[Tryz.params6]at ht
    have:t=9∨t=3:=by
     rcases j with _|_|j
     ·left;simpa using ht.symm
     ·right;simpa using ht.symm
     ·simp at ht
    rcases this with rfl|rfl
    ·show Tryz.prog.wantsStandIn 9=false;kernel_rfl
    ·show Tryz.prog.wantsStandIn 3=false;kernel_rfl⟩)
  (by kernel_rfl)
#print axioms filexMore_holds
end Go.Proofs.YtgadhdnnkdcgkaaGreatDoor
