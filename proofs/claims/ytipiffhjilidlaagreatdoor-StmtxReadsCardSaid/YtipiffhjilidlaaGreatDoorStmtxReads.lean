/- The law StmtxReads is true for every list of tokens and every place, in every world whose listed variables are as the program lays them. No other condition. -/
import Derived.Test.YtipiffhjilidlaaGreatDoorVh6
import Derived.Test.YtipiffhjilidlaaGreatDoorVmH
import Derived.Test.YtipiffhjilidlaaGreatDoorAwStmtxReads
import Derived.Test.YtipiffhjilidlaaGreatDoorVbStmtxReadsJe
import Derived.Test.YtipiffhjilidlaaGreatDoorCards
import Derived.Test.YtipiffhjilidlaaGreatDoorTie
import Derived.Test.YtipiffhjilidlaaGreatDoorRows
import Derived.ChangeMaps5
import Derived.ProofKit
import Derived.OpenShut
import Derived.SizedLaws
import Derived.LaidMore
import Derived.Lay
import Derived.SevenTiedAt
import Derived.Stop.Joined
set_option linter.unusedVariables false
set_option linter.unusedSimpArgs false
namespace Go.Proofs.YtipiffhjilidlaaGreatDoor
open Go.ChangeShapes Go.WideShapes Go.ChangeAt Go.RowKit
theorem Tryz.flat:VM.tD Tryz.prog [3,9,22,30]=true:=by kernel_rfl
theorem decodeTk{H:Type}(n:Nat)(d:DataW H)(h:VM.TyD Tryz.prog n 30 d)(hw:∀w∈d.weights Tryz.prog 30,w≤reachBytes):∃x:VM.Tz,VM.dV d=VM.bH x∧x.t.length<VM.big:=by
 obtain⟨xs,m,rfl,rfl,hx⟩:=h.st Tryz.underlying30
 cases hx with
 |cons h1 t=>cases t with
  |cons h2 t=>cases t with
   |cons h3 t=>cases t with
    |cons h4 t=>
     cases t
     obtain⟨k,rfl,_⟩:=h1.int Tryz.underlying3
     obtain⟨a,rfl,_⟩:=h2.int Tryz.underlying3
     obtain⟨e,rfl,_⟩:=h3.int Tryz.underlying3
     obtain⟨s,rfl,_⟩:=h4.str Tryz.underlying9
     simp only[DataW.weights,Tryz.underlying30,List.map_cons,List.map_nil,DataW.weightsEach,List.nil_append,List.append_nil,List.mem_singleton]at hw
     have hs:(s.map UInt8.toNat).length≤reachBytes:=by rw[List.length_map];exact hw _ rfl
     exact⟨⟨k,a,e,s.map UInt8.toNat⟩,rfl,Nat.lt_of_le_of_lt hs (by decide)⟩
theorem decodeTks{H:Type}(n:Nat):∀es:List (DataW H),(∀x∈es,VM.TyD Tryz.prog n 30 x)→(∀w∈DataW.weightsAll Tryz.prog 30 es,w≤reachBytes)→∃l:List VM.Tz,VM.dVs es=l.map VM.bH∧∀t∈l,t.t.length<VM.big
 |[],_,_=>⟨[],rfl,fun t h=>by cases h⟩
 |y::r,h1,h2=>by
  simp only[DataW.weightsAll,List.mem_append]at h2
  obtain⟨x,e1,o1⟩:=decodeTk n y (h1 y (by simp)) (fun w h=>h2 w (.inl h))
  obtain⟨l,e2,o2⟩:=decodeTks n r (fun x h=>h1 x (by simp[h])) (fun w h=>h2 w (.inr h))
  refine⟨x::l,by simp only[VM.dVs,List.map_cons,e1,e2],fun t ht=>?_⟩
  cases ht with
  |head=>exact o1
  |tail _ ht=>exact o2 t ht
theorem decodeTs{H:Type}(n:Nat)(d:DataW H)(h:VM.TyD Tryz.prog n 22 d)(hw:∀w∈d.weights Tryz.prog 22,w≤reachBytes):∃l:List VM.Tz,VM.dV d=[VM.lsV l]∧∀t∈l,t.t.length<VM.big:=by
 rcases h.sl Tryz.underlying22 with rfl|⟨es,sp,m,rfl,rfl,_,h2⟩
 ·exact⟨[],rfl,fun t h=>by cases h⟩
 ·obtain⟨l,h3,h4⟩:=decodeTks m es h2 (fun w h=>hw w (by
   simp only[DataW.weights,Tryz.underlying22,List.mem_cons,List.mem_append];exact .inr (.inl h)))
  exact⟨l,by rw[VM.dV,h3];rfl,h4⟩
theorem stmtxReads_laid{W:World}(h:laidMetH Tryz.prog Rows.stmtxReadsRow.laid W):∃c t,W.heap[0]? =some (.cells c t (0,0))∧c=(VM.aAa.map fun z=>Value.int .u8 z).toArray:=by
 exact VM.aGn (t:=86) (e:=5) h (by kernel_rfl) (by kernel_rfl) Tryz.spaceG (by kernel_rfl) (by kernel_rfl) (by kernel_rfl) (by kernel_rfl) (by kernel_rfl) (of_decide_eq_true (by kernel_rfl))
set_option maxRecDepth 100000 in
theorem stmtxReads_lifted(os:Os)(started:os.Started)(H:Type)(enc:TypeId×Value→H):
  ReturnsInHanded {} Tryz.checked os 3 .any (fun w args=>(Rows.stmtxReadsSpec.pre enc Tryz.prog Tryz.f3 Rows.stmtxReadsRow.domain false w args∧laidMetH Tryz.prog Rows.stmtxReadsRow.laid w)∧sizedMet enc Tryz.prog Tryz.f3 (OpenSpec.ofChange Rows.stmtxReadsSpec) false w args)
   (Rows.stmtxReadsSpec.post enc Tryz.prog Tryz.f3 false true false false):=by
 refine returnsInHanded_of_change_and (C:=Tryz.checked) (X:=fun w _=>laidMetH Tryz.prog Rows.stmtxReadsRow.laid w) (fun _ _ _ hh h=>h.of_heap hh) Tryz.own started (by kernel_rfl) Tryz.func3
  (ChangeSpec.witness_shaped (enc:=enc) (C:=Tryz.checked) (os:=os) (X:=fun w _=>laidMetH Tryz.prog Rows.stmtxReadsRow.laid w) false (World.laidAll Tryz.prog os Rows.stmtxReadsRow.laid) #[.slice none 0 0,.int .i64 0] 8 (World.laidAll_os _ _ _)
   (World.shaped_of_ZipB (by kernel_rfl) (by kernel_rfl)) (by kernel_rfl) (by kernel_rfl) (by kernel_rfl)
   (by rw[MakeChecks.laidMetH_plain _ _ _ (by kernel_rfl)];exact laidMet_laidAll _ (by kernel_rfl) (by kernel_rfl))) ?_
 intro W base args ds gs before hval0 hW hcnd hsz hL _
 have hval:∀(j:Nat) t v,Tryz.f3.params[j]? =some t→args[j]? =some v→Value.okWide Tryz.prog W .any base t v:=hval0
 have hW':=hW
 obtain⟨p,q,hA0,hV,rfl,hfz,hnd⟩:=hW
 have hA:DataW.TrodAll enc Tryz.prog W 0 (fun _=>true) true Tryz.f3.params.toList args.toList ds p:=hA0
 rw[Tryz.params3]at hA hval
 obtain⟨v0,v1,d0,d1,p0,p1,rfl,rfl,rfl,h0,h1⟩:=trodAll_two hA
 obtain⟨rfl,rfl⟩:=trodVars_none hV
 obtain⟨fu0,h0⟩:=h0
 obtain⟨r0,_,t0⟩:=VM.aIj Tryz.flat fu0 _ _ _ (by decide) h0
 have k0:=hval 0 22 v0 rfl rfl
 have sz0:∀w∈d0.weights Tryz.prog 22,w≤reachBytes:=fun w hw=>by
  have:=List.all_eq_true.1 hsz w (DataW.weights_mem_each (j:=0) (t:=22) (d:=d0) (by rw[Tryz.params3];rfl) rfl w hw)
  simpa using this
 obtain⟨fu1,h1⟩:=h1
 obtain⟨r1,_,t1⟩:=VM.aIj Tryz.flat fu1 _ _ _ (by decide) h1
 have k1:=hval 1 3 v1 rfl rfl
 have sz1:∀w∈d1.weights Tryz.prog 3,w≤reachBytes:=fun w hw=>by
  have:=List.all_eq_true.1 hsz w (DataW.weights_mem_each (j:=1) (t:=3) (d:=d1) (by rw[Tryz.params3];rfl) rfl w hw)
  simpa using this
 obtain⟨l0,hl0,ho0⟩:=decodeTs _ _ t0 sz0
 obtain⟨x1,rfl,_⟩:=t1.int Tryz.underlying3
 have a0:=VM.aMz Tryz.underlying22 k0 r0 hl0
 have a1:=VM.aVa Tryz.underlying3 k1 r1 rfl
 obtain⟨c,t,hb,hc⟩:=stmtxReads_laid hL
 refine(VM.aOe (args':= #[v0,v1]) (VM.aFr l0 ho0 x1) (by decide) hb hc (.cons _ _ _ _ a0 (.cons _ _ _ _ a1 .nil))).mono fun e W' ⟨E',v',he,hv,bel⟩=>?_
 cases hv
 subst he
 exact⟨_,rfl,⟨_,_,_,[],_,_,hW',trodAll_mk1 (shut_bool (by kernel_rfl) true),VM.aPw Tryz.flat bel (by decide) hW' hA0,hV,bel.frame _,fun h=>by cases h⟩⟩
theorem stmtxReads_row:Rows.StmtxReadsSaid:=
 OpenClaim.holds_of_wide 3 Tryz.f3 rfl rfl rfl rfl rfl rfl rfl ⟨rfl,rfl,rfl,rfl,rfl⟩ rfl rfl rfl rfl rfl (by kernel_rfl) Tryz.func3 stmtxReads_closed
  (of_decide_eq_true (by kernel_rfl)) (by unfold Func.isWrapper;first|(rw[if_pos (by decide+kernel)];kernel_rfl)|(rw[if_neg (by decide+kernel)];exact⟨rfl,rfl⟩))
  (fun os started H enc _=>stmtxReads_lifted os started H enc)
theorem stmtxReads_holds:Rows.StmtxReadsCardSaid:=
 Claim7.holds_tied_plain_at .later [] [.data,.data,.data,.sentinel,.sentinel,.listed,.data] true (true, "b9c30367a6230684e2b66c22af24b90a57810ac588264d0d1145a82c7d9fdfb3") true
  stmtxReads_row (fun _ h=>by cases h) (by kernel_rfl) (fun _ h=>by cases h) stmtxReads_row_tie rfl ⟨rfl,rfl⟩ (by kernel_rfl) rfl
  (fun f fn hf hfn=>by
   obtain rfl:f=3:=Option.some.inj ((show Tryz.prog.funcNamed "quoin/quoinlaw05.StmtxReads" =some 3 by kernel_rfl).symm.trans hf)|>.symm
   obtain rfl:fn=Tryz.f3:=(Option.some.inj (Tryz.func3.symm.trans hfn)).symm
   exact⟨by kernel_rfl,fun j t ht=>by
    rw[Tryz.params3]at ht
    have:t=22∨t=3:=by
     rcases j with _|_|j
     ·left;simpa using ht.symm
     ·right;simpa using ht.symm
     ·simp at ht
    rcases this with rfl|rfl
    ·show Tryz.prog.wantsStandIn 22=false;kernel_rfl
    ·show Tryz.prog.wantsStandIn 3=false;kernel_rfl⟩)
  (by kernel_rfl)
#print axioms stmtxReads_holds
end Go.Proofs.YtipiffhjilidlaaGreatDoor
