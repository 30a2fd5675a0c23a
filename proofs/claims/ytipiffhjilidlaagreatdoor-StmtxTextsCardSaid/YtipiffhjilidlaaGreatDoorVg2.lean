/- laid for this seat: VlWords VlAll VlAll2 VlAll3 VlAll4 -/
import Derived.Test.YtipiffhjilidlaaGreatDoorVg1
import Derived.Test.YtipiffhjilidlaaGreatDoorVmS
set_option linter.unusedVariables false
set_option linter.unusedSimpArgs false
section
/- Tokens: the words of the language, as a map. -/
set_option maxRecDepth 100000
namespace Go.VM
open Go.RowKit
def aWf:List Nat:=[112,97,99,107,97,103,101,32,105,109,112,111,114,116,32,116,121,112,101,32,115,116,114,117,99,116,32,105,110,116,101,114,102,97,99,101,32,102,117,110,99,32,108,101,116,32,105,102,32,101,108,115,101,32,102,111,114,32,114,101,116,117,114,110,32,110,101,119,32,116,114,117,101,32,102,97,108,115,101,32,105,110,116,32,98,111,111,108,32,116,101,120,116]
def qH:Obj:=.cells false (jX .u8 aAk)
def tOl:OL:=[(0,qH)]
def mOl:OL:=[(0,qH),(1000,.map [])]
def fOl:OL:=[(0,qH),(1000,.map []),(1001,.cells false (mB.map V.str))]
def gOl:OL:=[(0,qH),(1000,.map tJ),(1001,.cells false (mB.map V.str))]
def aNb(d:Nat)(r:X×SL):Option Nat×Option TV×Nat×OL×LM×List AD×Option AMode:=((match r.1 with|.ret=>some 0|.norm=>some 1|_=>none),tg r.2.tm d,r.2.nxt,r.2.ol,r.2.lc,r.2.df,r.2.u)
theorem aPw{d n:Nat}{o:Option (X×SL)}{v:Option TV}{ol:OL}{lc:LM}{df:List AD}{u:Option AMode}(h:o.map (aNb d)=some (some 0,v,n,ol,lc,df,u)):∃tm,o=some (.ret,⟨tm,df,u,n,ol,lc⟩)∧tg tm d=v:=by
 cases o with
 |none=>cases h
 |some r=>
  obtain⟨x,tm,df',u',nx,ol',lc'⟩:=r
  simp only[Option.map_some,aNb,Option.some.injEq,Prod.mk.injEq]at h
  obtain⟨h1,h2,h3,h4,h5,h6,h7⟩:=h
  subst h3;subst h4;subst h5;subst h6;subst h7
  refine⟨tm,?_,h2⟩
  cases x<;>first|rfl|cases h1
theorem aMz{d n:Nat}{o:Option (X×SL)}{v:Option TV}{ol:OL}{lc:LM}{df:List AD}{u:Option AMode}(h:o.map (aNb d)=some (some 1,v,n,ol,lc,df,u)):∃tm,o=some (.norm,⟨tm,df,u,n,ol,lc⟩)∧tg tm d=v:=by
 cases o with
 |none=>cases h
 |some r=>
  obtain⟨x,tm,df',u',nx,ol',lc'⟩:=r
  simp only[Option.map_some,aNb,Option.some.injEq,Prod.mk.injEq]at h
  obtain⟨h1,h2,h3,h4,h5,h6,h7⟩:=h
  subst h3;subst h4;subst h5;subst h6;subst h7
  refine⟨tm,?_,h2⟩
  cases x<;>first|rfl|cases h1
theorem aHj:(exe [0] Go.Proofs.Tryz.f37.ntmps [] [0,3,4,5,6,9,10,11,12] 3000 aWz ⟨iR 0 [.str aWf],[],none,1001,mOl,[]⟩).map (aNb 2)=some (some 0,some (.v (.sl 1001 0 17 (.ex 17))),1002,fOl,[],[],none):=by kernel_rfl
theorem aAr{D:Nat→Prop}:∀l:List (List Nat),Ins D (l.map V.str)
 |[]=>trivial
 |_::l=>⟨trivial,aAr l⟩
theorem qY{D:Nat→Prop}:qH.In D:=qW
theorem aVk{v:V}{nx:Nat}{ol:OL}{tm:TM}{fn:Func}{d:Nat}(hr:fn.results.toList=[.tmp d])(ht:tg tm d=some (.v v)):iO Go.Proofs.Tryz.prog fn v nx ol (SL.toS ⟨tm,[],none,nx,ol,[]⟩):=by
 refine⟨rfl,rfl,⟨[v],?_,VLe.refl _⟩,fun _ _=>rfl⟩
 rw[hr]
 simp only[pY,SL.toS,ht]
theorem aDa:SCall Go.Proofs.Tryz.prog [0] 37 [.str aWf] none ⟨1001,og mOl,[]⟩ (.ret (.sl 1001 0 17 (.ex 17))) none ⟨1002,og fOl,[]⟩:=by
 refine SCall.listed (fn:=Go.Proofs.Tryz.f37) (by kernel_rfl) aZs (by kernel_rfl) (by kernel_rfl) ((by decide)) rfl ((by exact⟨qY,trivial,aAr _,trivial⟩)) (by show(1001:Nat)<1002;decide) ?_
 unfold aWz
 obtain⟨tm,h1,h2⟩:=aPw aHj
 refine WR.exe 3000 [] [0,3,4,5,6,9,10,11,12] h1 ?_
 show iO Go.Proofs.Tryz.prog _ _ _ _ _
 exact aVk rfl h2
theorem aFp:(exe [0] Go.Proofs.Tryz.f26.ntmps [] [1,5,6,7] 3000 (.block 0 (.loop aKf)) ⟨[(1,.v (.map 1000)),(5,.v (.sl 1001 0 17 (.ex 17))),(6,.v (.int .i64 17)),(7,.v (.int .i64 0))],[],none,1002,fOl,[]⟩).map (aNb 1)=some (some 1,some (.v (.map 1000)),1002,gOl,[],[],none):=by kernel_rfl
theorem aWo{D:Nat→Prop}:fG D gOl:=⟨qY,rJ _,aAr _,trivial⟩
theorem aCs:SCall Go.Proofs.Tryz.prog [0] 26 [] none ⟨1000,og tOl,[]⟩ (.ret (.map 1000)) none ⟨1002,og gOl,[]⟩:=by
 refine SCall.listed (fn:=Go.Proofs.Tryz.f26) (by kernel_rfl) bAx (by kernel_rfl) (by kernel_rfl) ((by decide)) rfl (aWo) (by show(1000:Nat)<1002;decide) ?_
 unfold bBg
 refine WR.seq (WR.q rfl ?_)
 refine WR.seq (WR.q rfl ?_)
 refine WR.seq (WR.seq (WR.reg ?_))
 refine WQ.c rfl aDa .base rfl (WQ.q rfl ?_)
 obtain⟨tm,h1,h2⟩:=aMz aFp
 refine WR.weak (s:=SL.toS ⟨[(1,.v (.map 1000)),(5,.v (.sl 1001 0 17 (.ex 17))),(6,.v (.int .i64 17)),(7,.v (.int .i64 0))],[],none,1002,fOl,[]⟩) ?_ (WR.exe 3000 [] [1,5,6,7] h1 ?_)
 ·refine SW.aP ?_ ?_
  ·exact tQ
  ·exact lQ
 show WR Go.Proofs.Tryz.prog [0] _ aAb _ _ _
 refine WR.weak (s:=SL.toS ⟨[(1,.v (.map 1000))],[],none,1002,gOl,[]⟩) (SW.aP (.cons h2 (.v (VLe.refl _)) .nil) .nil) ?_
 unfold aAb
 repeat(first|refine WR.seq ?_|refine WR.block ?_|refine WR.scope ?_|refine WR.skip ?_|refine WR.exit ?_|refine WR.aB rfl ?_|refine WR.aF rfl ?_|refine WR.m 1000 rfl ?_|refine WQ.aL ?_|refine WR.aO aV (DW.m 1000 rfl ?_))
 exact WR.e
def tB:OL:=[(1000,.map tJ)]
theorem aHd:SCall Go.Proofs.Tryz.prog [0] 26 [] none ⟨aD,og [(0,qH)],[]⟩ (.ret (.map 1000)) none ⟨aD+2,og ((0,qH)::tB),[]⟩:=by
 refine aCs.drop rfl rfl (fun b o h=>?_) (fun b hb=>?_)
 ·show og gOl b=some o
  have h:og ((0,qH)::tB) b=some o:=h
  simp only[tB,gOl,aQ]at h⊢
  split at h
  ·rename_i e;rw[if_pos e];exact h
  ·rename_i e;rw[if_neg e]
   split at h
   ·rename_i e;rw[if_pos e];exact h
   ·cases h
 ·have hb:b<1000:=hb
  show og ((0,qH)::tB) b=og gOl b
  simp only[tB,gOl,aQ]
  split
  ·rfl
  ·rw[if_neg (by omega),if_neg (by omega),if_neg (by omega)]
theorem wL(ρ:Nat→Nat):Obj.ren ρ (.map tJ)=.map tJ:=by
 have go:∀l:List (List Nat),(l.map aFo).map (fun e=>(e.1.ren ρ,e.2.ren ρ))=l.map aFo:=by
  intro l
  induction l with
  |nil=>rfl
  |cons a l ih=>simp only[List.map_cons,ih];rfl
 simp only[Obj.ren]
 first|exact congrArg Obj.map (go mB)|rfl
theorem aHc(h:H)(ht:h.ob 0=some qH)(hf:∀b,h.nxt≤b→h.ob b=none)(hg:aD≤h.nxt):SCall Go.Proofs.Tryz.prog [0] 26 [] none h (.ret (.map h.nxt)) none {(h.new (.map tJ))with nxt:=h.nxt+2}:=by
 have r0:ρL [] h.nxt 1000=h.nxt:=(lJ (bs:=[]) (i:=1000) (Nat.le_refl _)).trans (by simp[aD])
 refine SCall.aYe (n:=2) (news:=tB) (g:=0) rfl (by decide) aHd (fun i hi=>?_) trivial (by show(1000:Nat)<_;decide) (by exact⟨rJ _,trivial⟩) ht ?_ rfl rfl (fun i hi=>?_) (fun b hb=>?_)
 ·simp only[tB,aQ]at hi
  split at hi
  ·rename_i e;subst e;exact⟨Nat.le_refl _,by decide⟩
  ·cases hi
 ·show V.map (ρL [] h.nxt 1000)=_
  rw[r0]
 ·show(if h.nxt+i=h.nxt then some (Obj.map tJ)else h.ob (h.nxt+i))=_
  simp only[tB,aQ]
  by_cases hi0:i=0
  ·subst hi0
   rw[if_pos (by omega),if_pos (by decide)]
   exact(congrArg some (wL _)).symm
  ·rw[if_neg (by omega),if_neg (by show ¬1000+i=1000;omega),hf _ (by omega)];rfl
 ·show(if b=h.nxt then _ else h.ob b)=_
  rw[if_neg (by omega)]
end Go.VM
end
section
/- Tokens: all of a text: rounds of the loop. -/
set_option maxRecDepth 100000
namespace Go.VM
open Go.RowKit
def scA:RC:=.seq (.reg [.op (.al [.int .i64 0,.int .i64 0,.int .i64 0,.str []]) 6,⟨0,0,some (.st (.t 6) (.t 10) 4),[],none,none⟩]) (.reg [.op (.al [.int .i64 0,.int .i64 0]) 7,⟨0,0,some (.st (.t 7) (.t 11) 2),[],none,none⟩])
def scB:RC:=.block 1 (.seq (.seq (.reg [.op (.ld (.t 7) (some 2)) 12,.op (.bld [.int .i64 0,.int .i64 0] [(0,1),(1,1)] []) 13,.op (.eq (.st [(0,.int),(1,.int)]) true (.t 12) (.t 13)) 14]) (.cond (.t 14) (.seq (.aO [⟨0,0,some (.ld (.t 7) (some 2)),[7],some 15,none⟩] [(⟨1,0,some (.st (.t 4) (.c (.lst [] (.ex 0))) 1),[4],none,none⟩,[]),(⟨2,3,some (.st (.t 5) (.t 15) 2),[5,15],none,none⟩,[])] [15]) (.exit 0)) .skip)) (.reg [.op (.ld (.t 4) none) 16,.op (.ld (.t 6) (some 4)) 17,.op (.bs 4 1 [.int .i64 0,.int .i64 0,.int .i64 0,.str []] [(0,.t 17)]) 18,.op (.app (.t 16) (.t 18) 4 40 [.int .i64 0,.int .i64 0,.int .i64 0,.str []]) 19,⟨0,0,some (.st (.t 4) (.t 19) 1),[],none,none⟩]))
def tmA:TM:=[(4,.v (.ptr 1000 0)),(5,.v (.ptr 1001 0))]
noncomputable def lpS(st:LoopState)(j:Option Code)(asC bdC:Code):ALoop:=⟨st,j,9,false,tmA,Go.Proofs.Tryz.f9.ntmps,[10,11],asC,bdC⟩
def dg(a c:Int):List V:=[.int .i64 a,.int .i64 c]
def iY(lv:V)(wr:List V)(s:List Nat)(lp:ALoop)(row:OL):OL:=
 (0,qH)::(1000,.cells false [lv])::(1001,.cells false wr)::(1002,.cells false [.str s])::(1003,.dfr (some []))::(1004,.loop lp)::(1005,.map tJ)::row
def lvT:List Tk→V
 |[]=>.lst [] (.ex 0)
 |t::l=>.lst ((t::l).map hC) (.tk 1007)
def lN:List Tk→OL
 |[]=>[]
 |t::l=>[(1007,.tok (t::l).length)]
def nxT:List Tk→Nat
 |[]=>1007
 |_::_=>1008
theorem aGb{D:Nat→Prop}:∀l:List Tk,Inss D (l.map hC)
 |[]=>trivial
 |_::l=>⟨⟨trivial,trivial,trivial,trivial,trivial⟩,aGb l⟩
theorem aEz{N:Nat}{l:ALoop}(h:∀t v,tg l.tmps t=some v→∃x,v=.v x∧x.In (· <N)):fY N (.loop l):=by
 intro E p w ⟨L,h1,h2,h3,h4,h5,h6,h7,h8⟩
 refine⟨L,h1,h2,h3,h4,h5,h6,h7,h8.1,fun t v hv=>?_⟩
 obtain⟨x,rfl,hx⟩:=h t v hv
 obtain⟨x',a1,a2⟩:=h8.2 t _ hv
 cases a2 with
 |v _ _ a3=>exact⟨x',a1,.v _ _ (hx.bE E x' a3)⟩
theorem aGs{lv:V}{wr:List V}{s:List Nat}{lp:ALoop}(l:List Tk):olB (nxT l) (iY lv wr s lp (lN l))=true:=by
 cases l<;>rfl
theorem aSb{lv:V}{wr:List V}{s:List Nat}{lp lp':ALoop}{row:OL}{nx:Nat}{lc:LM}:H.put ⟨nx,og (iY lv wr s lp row),lc⟩ 1004 (.loop lp')=⟨nx,og (iY lv wr s lp' row),lc⟩:=by
 rw[pX];rfl
theorem wB{lv:V}{wr:List V}{s:List Nat}{lp:ALoop}{row:OL}{nx:Nat}(hn:1007≤nx)(hlv:lv.In (· <nx))(hw:Ins (· <nx) wr)(hrow:fG (· <nx) row)(hlp:lp.tmps=tmA):
  ∀c o,c≠1003→og (iY lv wr s lp row) c=some o→fY nx o:=by
 intro c o h4 ho
 by_cases h5:c=1004
 ·subst h5
  cases ho
  refine aEz (fun t v hv=>?_)
  rw[hlp]at hv
  have:=aFw hv
  simp only[tmA,List.mem_cons,List.not_mem_nil,or_false,Prod.mk.injEq]at this
  rcases this with⟨_,rfl⟩|⟨_,rfl⟩
  ·exact⟨_,rfl,show 1000<nx by omega⟩
  ·exact⟨_,rfl,show 1001<nx by omega⟩
 ·simp only[iY,aQ]at ho
  split at ho
  ·cases ho;exact Obj.In.bE (o:=.cells false _) qY
  split at ho
  ·cases ho;exact Obj.In.bE (o:=.cells false _) ⟨hlv,trivial⟩
  split at ho
  ·cases ho;exact Obj.In.bE (o:=.cells false _) hw
  split at ho
  ·cases ho;exact Obj.In.bE (o:=.cells false _) ⟨trivial,trivial⟩
  split at ho
  ·cases ho;exact Obj.In.bE (o:=.map _) (rJ _)
  exact(cU hrow c o ho).bE
def tmR(t:Tk)(a c:Int):TM:=[(7,.l 7 0),(6,.l 6 0),(11,.v (.agg (dg a c))),(10,.v (.agg (hC t))),(4,.v (.ptr 1000 0)),(5,.v (.ptr 1001 0))]
def lcR(t:Tk)(a c:Int):LM:=[(6,hC t),(7,dg a c)]
theorem tX{nx:Nat}:∀l:List Tk,fG (· <nx) (lN l)
 |[]=>trivial
 |_::_=>⟨trivial,trivial⟩
theorem aDr{asC bdC:Code}(ha:aE Go.Proofs.Tryz.prog asC=some scA)(hb:aE Go.Proofs.Tryz.prog bdC=some scB){t:Tk}{a c:Int}{lv:V}{wr:List V}{s:List Nat}{row ol':OL}{nx nx':Nat}{j:Option Code}(hn:nx≤nx')(hol:olB nx' ol'=true)
  (hin:∀b,b<nx'→(og ol' b=og (iY lv wr s (lpS .ready none asC bdC) row) b∨∀o,og ol' b=some o→fY nx' o))
  (hw:WR Go.Proofs.Tryz.prog [0] ⟨Go.Proofs.Tryz.f9.ntmps,some 1004,9⟩ scB (SL.toS ⟨tmR t a c,[],none,nx,iY lv wr s (lpS .busy none asC bdC) row,lcR t a c⟩) (fun s2=>j=none∧aLm 1004 (lpS .ready none asC bdC) none nx' ol' s2) (fun y s2=>y≠.norm∧aVg y=some j∧aLm 1004 (lpS .ready none asC bdC) j nx' ol' s2)):
  SRound Go.Proofs.Tryz.prog [0] 1004 [.agg (hC t),.agg (dg a c)] ⟨nx,og (iY lv wr s (lpS .ready none asC bdC) row),[]⟩ (.ret (.bool j.isNone)) ⟨nx',og ol',[]⟩:=by
 refine SRound.listed (tm1:=[]) (nx1:=0) (ol1:=[]) (lc1:=[]) ha hb rfl rfl rfl hn hol hin ?_
 unfold scA
 repeat(first|refine WR.seq ?_|refine WR.block ?_|refine WR.scope ?_|refine WR.skip ?_|refine WR.exit ?_|refine WR.aB rfl ?_|refine WR.aF rfl ?_|refine WR.m 1000 rfl ?_|refine WQ.aL ?_|refine WR.aO aV (DW.m 1000 rfl ?_))
 refine⟨rfl,rfl,rfl,?_⟩
 have e:=aSb (lv:=lv) (wr:=wr) (s:=s) (lp:=lpS .ready none asC bdC) (lp':=lpS .busy none asC bdC) (row:=row) (nx:=nx) (lc:=lcR t a c)
 have e2:∀h,h=(⟨nx,og (iY lv wr s (lpS .busy none asC bdC) row),lcR t a c⟩:H)→(S.mk (tmR t a c) [] none h)=SL.toS ⟨tmR t a c,[],none,nx,iY lv wr s (lpS .busy none asC bdC) row,lcR t a c⟩:=by rintro _ rfl;rfl
 have e3:=e2 _ e
 refine Eq.mp ?_ hw
 exact congrArg (fun s=>WR Go.Proofs.Tryz.prog [0] ⟨Go.Proofs.Tryz.f9.ntmps,some 1004,9⟩ scB s _ _) e3.symm
theorem tR{asC bdC:Code}{lv:V}{wr:List V}{s:List Nat}{row:OL}{nx':Nat}{tm:TM}{lc:LM}(j:Option Code):aLm 1004 (lpS .ready none asC bdC) j nx' (iY lv wr s (lpS (if j.isNone then .ready else .done) j asC bdC) row) (SL.toS ⟨tm,[],none,nx',iY lv wr s (lpS .busy none asC bdC) row,lc⟩):=by
 refine⟨rfl,rfl,fun c _=>?_⟩
 have e:=aSb (lv:=lv) (wr:=wr) (s:=s) (lp:=lpS .busy none asC bdC) (lp':=lpS (if j.isNone then .ready else .done) j asC bdC) (row:=row) (nx:=nx') (lc:=lc)
 exact(congrArg (fun h:H=>h.ob c) e).symm
theorem aPd{lv lv':V}{wr wr':List V}{s:List Nat}{lp lp':ALoop}{row row':OL}{nx':Nat}(hn:1007≤nx')(hlv:lv'.In (· <nx'))(hw:Ins (· <nx') wr')(hrow:fG (· <nx') row')(hlp:lp'.tmps=tmA):
  ∀c,c<nx'→(og (iY lv' wr' s lp' row') c=og (iY lv wr s lp row) c∨∀o,og (iY lv' wr' s lp' row') c=some o→fY nx' o):=by
 intro c _
 by_cases h:c=1003
 ·subst h;exact .inl rfl
 ·exact .inr fun o ho=>wB hn hlv hw hrow hlp c o h ho
theorem rR(l:List Tk):1007≤nxT l:=by
 cases l with
 |nil=>exact Nat.le_refl _
 |cons _ _=>show 1007≤1008;decide
theorem aTz(l:List Tk)(t:Tk):nxT (l++[t])=1008:=by cases l<;>rfl
theorem aYm(l:List Tk):nxT l≤1008:=by
 cases l with
 |nil=>show 1007≤1008;decide
 |cons _ _=>exact Nat.le_refl _
theorem aQt(l:List Tk):(lvT l).In (· <nxT l):=by
 cases l with
 |nil=>exact⟨trivial,trivial⟩
 |cons t l=>exact⟨aGb _,(by show 1007<1008;decide),by decide⟩
theorem yY{asC bdC:Code}(ha:aE Go.Proofs.Tryz.prog asC=some scA)(hb:aE Go.Proofs.Tryz.prog bdC=some scB)(l:List Tk)(hl:l.length≤4000)(t:Tk)(wr:List V)(hwr:∀n,Ins (· <n) wr)(s:List Nat):
  SRound Go.Proofs.Tryz.prog [0] 1004 [.agg (hC t),.agg (dg 0 0)] ⟨nxT l,og (iY (lvT l) wr s (lpS .ready none asC bdC) (lN l)),[]⟩ (.ret (.bool true)) ⟨nxT (l++[t]),og (iY (lvT (l++[t])) wr s (lpS .ready none asC bdC) (lN (l++[t]))),[]⟩:=by
 refine aDr (j:=none) ha hb (by rw[aTz];exact aYm l) (aGs (l++[t])) (aPd (rR _) (aQt _) (hwr _) (tX _) rfl) ?_
 cases l with
 |nil=>
  unfold scB
  refine WR.block (WR.seq (WR.seq (WR.reg (WQ.m 1000 rfl (WQ.aL (WR.k rfl ?_))))))
  refine WR.m 3 rfl ?_
  refine WQ.eJ rfl (oM (n2:=1) (es2:=[hC t]) rfl rfl (Nat.zero_lt_one) (by simp) (by simp[hC]) (by show 40*1≤lim;decide) rfl rfl rfl rfl) rfl ?_
  refine WQ.q rfl ?_
  exact⟨rfl,tR (lv:=lvT [t]) (row:=lN [t]) none⟩
 |cons x l=>
  unfold scB
  refine WR.block (WR.seq (WR.seq (WR.reg (WQ.m 1000 rfl (WQ.aL (WR.k rfl ?_))))))
  refine WR.m 3 rfl ?_
  refine WQ.eJ rfl (oJ (n:=(x::l).length) (n2:=(x::l++[t]).length) (es2:=(x::l++[t]).map hC) rfl rfl rfl (List.length_map ..).symm ?_ ?_ ?_ rfl ?_ ?_ rfl) rfl ?_
  ·simp[hC]
  ·simp[hC]
  ·simp only[List.length_map,List.length_cons,List.length_nil]at hl⊢;unfold lim;omega
  ·simp[hC,V.bT]
  ·simp
  refine WQ.q rfl ?_
  exact⟨rfl,tR (lv:=lvT (x::l++[t])) (row:=lN (x::l++[t])) none⟩
theorem aNg{asC bdC:Code}(ha:aE Go.Proofs.Tryz.prog asC=some scA)(hb:aE Go.Proofs.Tryz.prog bdC=some scB)(l:List Tk)(t:Tk)(a c:Nat)(hc:c≠0)(wr:List V)(hwr:wr=dg 0 0)(s:List Nat):
  SRound Go.Proofs.Tryz.prog [0] 1004 [.agg (hC t),.agg (dg a c)] ⟨nxT l,og (iY (lvT l) wr s (lpS .ready none asC bdC) (lN l)),[]⟩ (.ret (.bool false)) ⟨nxT l,og (iY (.lst [] (.ex 0)) (dg a c) s (lpS .done (some (.exit 0)) asC bdC) (lN l)),[]⟩:=by
 subst hwr
 refine aDr (j:=some (.exit 0)) ha hb (Nat.le_refl _) (aGs l) (aPd (rR _) ⟨trivial,trivial⟩ ⟨trivial,trivial,trivial⟩ (tX _) rfl) ?_
 unfold scB
 refine WR.block (WR.seq (WR.seq (WR.q rfl ?_)))
 refine WR.aB (show _=some (V.bool true)from ?_) ?_
 ·show some (V.bool (!(decide ((a:Int)=0)&&(decide ((c:Int)=0)&&true))))=_
  rw[show decide ((c:Int)=0)=false from decide_eq_false (by omega),Bool.false_and,Bool.and_false];rfl
 cases l with
 |nil=>
  refine WR.seq (WR.aO aV (DW.m 1000 rfl ?_))
  refine DW.stS pQ rfl rfl rfl rfl (DW.m 1000 rfl ?_)
  refine DW.stS pQ rfl rfl rfl rfl (DW.m 1000 rfl ?_)
  refine DW.cD pQ (WR.exit ?_)
  exact⟨(fun h=>by cases h),rfl,tR (lv:=.lst [] (.ex 0)) (row:=lN []) (some (.exit 0))⟩
 |cons x l=>
  refine WR.seq (WR.aO aV (DW.m 1000 rfl ?_))
  refine DW.stS pQ rfl rfl rfl rfl (DW.m 1000 rfl ?_)
  refine DW.stS pQ rfl rfl rfl rfl (DW.m 1000 rfl ?_)
  refine DW.cD pQ (WR.exit ?_)
  exact⟨(fun h=>by cases h),rfl,tR (lv:=.lst [] (.ex 0)) (row:=lN (x::l)) (some (.exit 0))⟩
end Go.VM
end
section
/- Tokens: all of a text: one by one. -/
set_option maxRecDepth 100000
namespace Go.VM
open Go.RowKit
def aSz(s:List Nat)(i c n:Nat):Tk×Nat:=((hJ s i c).1,if n≥4000 then 6 else(hJ s i c).2)
def aIj(s:List Nat):Tk:=⟨0,s.length,s.length,[]⟩
def aBk(s:List Nat):Nat→Nat→List Tk→List Tk×Nat×Nat
 |0,_,l=>(l,0,0)
 |m+1,i,l=>match s[i]? with
  |none=>(l++[aIj s],0,0)
  |some c=>match aSz s i c l.length with
   |(t,0)=>aBk s m (mM s (s.length+1) t.e) (l++[{t with text:=(s.drop i).take (t.e-i)}])
   |(_,w+1)=>(l,i,w+1)
theorem aCx{p:Nat→Bool}{s:List Nat}{i c:Nat}(hc:s[i]? =some c)(h:p c=true):1≤eS p (s.drop i):=by
 have hi:=(List.getElem?_eq_some_iff.1 hc).1
 rw[List.drop_eq_getElem_cons hi]
 have:s[i]=c:=by rw[List.getElem?_eq_getElem hi]at hc;exact Option.some.inj hc
 rw[this,eS,h]
 simp only
 omega
theorem aCw{s:List Nat}{i c:Nat}(hc:s[i]? =some c)(h:(hJ s i c).2=0):i<(hJ s i c).1.e∧(hJ s i c).1.e≤s.length∧(hJ s i c).1.text=[]:=by
 have hi:=(List.getElem?_eq_some_iff.1 hc).1
 have le:∀p,eS p (s.drop i)≤s.length-i:=fun p=>by have:=jA p (s.drop i);rwa[List.length_drop]at this
 cases hL:fD c with
 |true=>
  rw[nG hL]at h⊢
  have h1:=aCx (p:=mK) hc (by unfold mK;rw[hL];rfl)
  have h2:=le mK
  exact⟨by simp only;omega,by simp only;omega,rfl⟩
 |false=>
  cases hD:eE c with
  |true=>
   rw[pI hL hD]at h⊢
   have h1:=aCx (p:=eE) hc hD
   have h2:=le eE
   exact⟨by simp only;omega,by simp only;omega,rfl⟩
  |false=>
   by_cases h34:c=34
   ·rw[rN hL hD h34]at h⊢
    unfold uS at h⊢
    cases hb:aRt s i with
    |true=>rw[hb]at h;cases h
    |false=>
     rw[hb]at h
     unfold aRt at hb
     simp only[Bool.or_eq_false_iff]at hb
     cases hq:s[aEj s i]? with
     |none=>rw[hq]at hb;cases hb.1
     |some x=>
      have hlt:=(List.getElem?_eq_some_iff.1 hq).1
      have:i+1≤aEj s i:=by unfold aEj;omega
      exact⟨by simp only;omega,by simp only;omega,rfl⟩
   ·cases hp:jD (s.drop i) [61,61]||jD (s.drop i) [38,38]with
    |true=>
     rw[vF hL hD h34 hp]at h⊢
     have:2≤(s.drop i).length:=by
      cases h1:jD (s.drop i) [61,61]with
      |true=>exact aJw h1
      |false=>rw[h1,Bool.false_or]at hp;exact aJw hp
     rw[List.length_drop]at this
     exact⟨by simp only;omega,by simp only;omega,rfl⟩
    |false=>
     rw[vX hL hD h34 hp]at h⊢
     exact⟨by simp only;omega,by simp only;omega,rfl⟩
theorem qQ(s:List Nat):∀(n i:Nat),i≤mM s n i
 |0,i=>Nat.le_refl _
 |n+1,i=>by
  rw[mM]
  split
  ·have:=qQ s n (i+eS iT (s.drop i)+eS mG (s.drop (i+eS iT (s.drop i))));omega
  ·omega
theorem nB(s:List Nat):∀(n i:Nat),i≤s.length→mM s n i≤s.length
 |0,i,h=>h
 |n+1,i,h=>by
  have c1:=jA iT (s.drop i)
  rw[List.length_drop]at c1
  have c2:=jA mG (s.drop (i+eS iT (s.drop i)))
  rw[List.length_drop]at c2
  rw[mM]
  split
  ·exact nB s n _ (by omega)
  ·omega
def tmI(i n:Nat):TM:=[(0,.v (.fn (.yield 1004) [] [])),(1,.v (.ptr 1002 0)),(3,.v (.map 1005)),(4,.v (.int .i64 n)),(5,.v (.int .i64 i))]
def tmJ(i n:Nat):TM:=(6,.l 6 0)::tmI i n
noncomputable def aLz(l:List Tk)(s:List Nat)(lp:ALoop):OL:=iY (lvT l) (dg 0 0) s lp (lN l)
theorem aKw{a c:Int}(n:Nat):Ins (· <n) (dg a c):=⟨trivial,trivial,trivial⟩
theorem aPx(s:List Nat)(h8:∀c∈s,c<256)(hl:s.length<big)(i c M:Nat)(hc:s[i]? =some c)(h:H)(hM:aD≤M)(hm:h.ob M=some (.map tJ)):
  SCall Go.Proofs.Tryz.prog [] 28 [.str s,.int .i64 i,.map M] none h (.ret (mI (hJ s i c))) none h:=by
 have r0:ρL [M] h.nxt 1000=M:=uP (bs:=[M]) (i:=0) rfl
 refine SCall.aFq (n:=0) [M] rfl (aGm s h8 hl i c hc) (by simp) (by simpa using hM) (fun j=>?_) rfl (fun j b o hj ho=>?_) aBo (by exact⟨trivial,trivial,(by show(1000:Nat)<1001;decide),trivial⟩) (by exact oB _) aBo ?_ (V.sM (D:=fun _=>False) (fun _ q=>q.elim) (oB _)) rfl rfl (fun j hj=>?_) (fun b hb=>rfl)
 ·show(og wOl j).isSome=true↔1000≤j∧j<1001
  simp only[wOl,aQ]
  split
  ·rename_i e;subst e;simp
  ·rename_i e;simp[og];omega
 ·cases j with
  |zero=>
   cases hj
   cases ho
   rw[hm,wL]
  |succ j=>simp at hj
 ·show [V.str s,V.int .i64 i,V.map (ρL [M] h.nxt 1000)]=_
  rw[r0]
 ·have:j=0:=by have:j<1:=hj;omega
  subst this
  show h.ob (ρL [M] h.nxt 1000)=(some (Obj.map tJ)).map _
  rw[r0,hm]
  exact(congrArg some (wL _)).symm
end Go.VM
end
section
/- Tokens: the iterator. -/
set_option maxRecDepth 100000
namespace Go.VM
open Go.RowKit
theorem aNj{nx:Nat}{ol:OL}{lc:LM}(h0:og ol 0=some qH)(hb:olB nx ol=true)(hg:aD≤nx):SCall Go.Proofs.Tryz.prog [0] 26 [] none ⟨nx,og ol,lc⟩ (.ret (.map nx)) none ⟨nx+2,og (oset ol nx (.map tJ)),lc⟩:=by
 have:=aHc ⟨nx,og ol,lc⟩ h0 (fun b hb'=>cO hb b hb') hg
 rw[nI]at this
 exact this
theorem aPs{asC bdC:Code}(ha:aE Go.Proofs.Tryz.prog asC=some scA)(hb:aE Go.Proofs.Tryz.prog bdC=some scB)(s:List Nat)(h8:∀c∈s,c<256)(hl:s.length<big)(R:List Tk×Nat×Nat){QN:S→Prop}{QX:X→S→Prop}
  (h0:∀tm l i,R=(l++[aIj s],0,0)→l.length≤4000→TellT tm [] (tmI i l.length)→QX (.exit 0) (SL.toS ⟨tm,[],none,nxT l,aLz l s (lpS .ready none asC bdC),[]⟩))
  (h1:∀tm lc l a c,R=(l,a,c+1)→QX .ret (SL.toS ⟨tm,[],none,nxT l,iY (.lst [] (.ex 0)) (dg a (c+1:Nat)) s (lpS .done (some (.exit 0)) asC bdC) (lN l),lc⟩)):
  ∀(m i:Nat) (l:List Tk),s.length<i+m→i≤s.length→l.length≤4000→R=aBk s m i l→
  WLr Go.Proofs.Tryz.prog [0] ⟨Go.Proofs.Tryz.f25.ntmps,none,25⟩ aBb (SL.toS ⟨tmI i l.length,[],none,nxT l,aLz l s (lpS .ready none asC bdC),[]⟩) QN QX:=by
 intro m
 induction m with
 |zero=>intro i l h;omega
 |succ m ih=>
  intro i l hm hi hl4 hR
  rw[aBk]at hR
  unfold aBb
  refine WLr.of ?_
  refine WR.seq (WR.seq (WR.q rfl ?_))
  cases hc:s[i]? with
  |none=>
   rw[hc]at hR
   have:s.length≤i:=List.getElem?_eq_none_iff.1 hc
   refine WR.aF (show _=some (V.bool false)from ?_) (WR.exit (h0 _ l i hR hl4 ?_))
   ·show some (V.bool (decide ((i:Int)<(s.length:Int))))=_
    rw[decide_eq_false (by omega)]
   ·exact tQ
  |some c=>
   rw[hc]at hR
   dsimp only at hR
   have hlt:=(List.getElem?_eq_some_iff.1 hc).1
   refine WR.aB (show _=some (V.bool true)from ?_) (WR.skip ?_)
   ·show some (V.bool (decide ((i:Int)<(s.length:Int))))=_
    rw[decide_eq_true (by omega)]
   have tk:=aPx s h8 hl i c 1005 hc ⟨nxT l,og (aLz l s (lpS .ready none asC bdC)),[]⟩ (by decide) rfl
   have hpos:=aCw hc
   have hW:aSz s i c l.length=((hJ s i c).1,if l.length≥4000 then 6 else(hJ s i c).2):=rfl
   generalize hJ s i c=T at tk hpos hW
   obtain⟨⟨tkd,tka,tke,tkx⟩,w⟩:=T
   refine WR.seq (WR.block (WR.seq (WR.m 3 rfl ?_)))
   refine WQ.c rfl tk.more .base rfl (WQ.q rfl ?_)
   refine WR.seq (WR.seq (WR.reg (WQ.m 2 rfl (WQ.aL ?_))))
   have bad:∀(tm:TM) (wx:Nat),TellT tm [(6,hC ⟨tkd,tka,tke,tkx⟩)] ((7,.v (.int .i64 (wx+1:Nat)))::tmJ i l.length)→R=(l,i,wx+1)→∀QN2 QX2,(∀st,QX .ret st→QX2 .ret st)→
     WR Go.Proofs.Tryz.prog [0] ⟨Go.Proofs.Tryz.f25.ntmps,none,25⟩ uF (SL.toS ⟨tm,[],none,nxT l,aLz l s (lpS .ready none asC bdC),[(6,hC ⟨tkd,tka,tke,tkx⟩)]⟩) QN2 QX2:=by
    intro tm wx ht hRx QN2 QX2 hq
    refine WR.weak (SW.aP ht (.cons rfl (.inl rfl) .nil)) ?_
    unfold uF
    refine WR.seq (WR.seq (WR.q rfl ?_))
    refine WR.aB (show _=some (V.bool true)from ?_) ?_
    ·show some (V.bool (!decide (((wx+1:Nat):Int)=0)))=_
     rw[decide_eq_false (by omega)];rfl
    refine WR.seq (WR.m 5 rfl ?_)
    refine WQ.aGt rfl rfl rfl rfl ((aNg ha hb l ⟨tkd,tka,tke,tkx⟩ i (wx+1) (by omega) (dg 0 0) rfl s).dU _) rfl (WQ.q rfl ?_)
    exact WR.ret (hq _ (h1 _ _ l i wx hRx))
   by_cases h4:l.length≥4000
   ·rw[show decide ((l.length:Int)≥4000)=true from decide_eq_true (by omega)]
    rw[if_pos h4]at hW
    rw[hW]at hR
    refine WR.aB rfl (WR.q rfl ?_)
    refine bad _ 5 ?_ hR _ _ (fun st q=>q)
    exact tQ
   rw[show decide ((l.length:Int)≥4000)=false from decide_eq_false (by omega)]
   rw[if_neg h4]at hW
   rw[hW]at hR
   refine WR.k rfl ?_
   cases w with
   |succ w=>
    refine bad _ w ?_ hR _ _ (fun st q=>q)
    exact tQ
   |zero=>
    obtain⟨p1,p2,p3⟩:=hpos rfl
    simp only at p1 p2 p3 hR
    subst p3
    have sk:=xP s h8 hl tke p2
    have g1:=qQ s (s.length+1) tke
    have g2:=nB s (s.length+1) tke p2
    unfold uF
    refine WR.seq (WR.seq (WR.reg (WQ.m 1000 rfl (WQ.aL (WR.k rfl ?_)))))
    refine WR.seq (WR.m 4 rfl ?_)
    refine WQ.bP rfl rfl rfl (uC rfl rfl rfl (by omega) p2) rfl (WQ.q rfl ?_)
    refine WR.seq (WR.seq (WR.m 3 rfl ?_))
    refine WQ.aGt rfl rfl rfl rfl ((yY ha hb l hl4 ⟨tkd,tka,tke,(s.drop i).take (tke-i)⟩ (dg 0 0) aKw s).dU _) rfl (WQ.m 1000 rfl (WQ.aL (WR.k rfl ?_)))
    refine WR.m 3 rfl ?_
    refine WQ.c rfl (sk _).more .base rfl (WQ.q rfl ?_)
    unfold aJs
    refine WR.m 2 rfl ?_
    rw[aN (by unfold big;omega)]
    refine WQ.q rfl ?_
    refine WIr.again (WLr.weak (s:=SL.toS ⟨tmI (mM s (s.length+1) tke) (l++[(⟨tkd,tka,tke,(s.drop i).take (tke-i)⟩:Tk)]).length,[],none,nxT (l++[(⟨tkd,tka,tke,(s.drop i).take (tke-i)⟩:Tk)]),aLz (l++[(⟨tkd,tka,tke,(s.drop i).take (tke-i)⟩:Tk)]) s (lpS .ready none asC bdC),[]⟩) ?_ (ih _ _ (by omega) g2 (by simp;omega) hR))
    rw[List.length_append]
    refine SW.aP ?_ ?_
    ·exact tQ
    ·exact lQ
end Go.VM
end
section
/- Tokens: All. -/
set_option maxRecDepth 100000
namespace Go.VM
open Go.RowKit
def cE(s:List Nat):List Tk×Nat×Nat:=aBk s (s.length+1) (mM s (s.length+1) 0) []
def fLv(R:List Tk×Nat×Nat):V:=match R.2.2 with
 |0=>lvT R.1
 |_+1=>.lst [] (.ex 0)
noncomputable def lpE(R:List Tk×Nat×Nat)(asC bdC:Code):ALoop:=match R.2.2 with
 |0=>lpS .ready none asC bdC
 |_+1=>lpS .done (some (.exit 0)) asC bdC
theorem aPc(R:List Tk×Nat×Nat)(asC bdC:Code):(lpE R asC bdC).tmps=tmA:=by
 unfold lpE;split<;>rfl
theorem aGo(R:List Tk×Nat×Nat):(fLv R).In (· <nxT R.1):=by
 unfold fLv
 split
 ·exact aQt _
 ·exact⟨trivial,trivial⟩
theorem VLe.bAt{a b c:V}(h:VLe a b):VLe (.tup [a,c]) (.tup [b,c]):=by
 intro E x r
 cases r with
 |tup _ cs hcs=>
  refine .tup _ _ ?_
  generalize cs.toList=q at hcs
  cases hcs with
  |cons _ v1 _ l1 r1 t1=>exact .cons _ _ _ _ (h E _ r1) t1
def bBi(s:List Nat)(lp:ALoop):OL:=(0,qH)::(1000,.cells false [.lst [] (.ex 0)])::(1001,.cells false (dg 0 0))::(1002,.cells false [.str s])::(1003,.dfr (some []))::(1004,.loop lp)::[]
theorem aNw{asC bdC:Code}(ha:aE Go.Proofs.Tryz.prog asC=some scA)(hb:aE Go.Proofs.Tryz.prog bdC=some scB)(s:List Nat)(h8:∀c∈s,c<256)(hl:s.length<big):
  SCall Go.Proofs.Tryz.prog [0] 25 [.fn (.yield 1004) [] [],.ptr 1002 0] none ⟨1005,og (bBi s (lpS .ready none asC bdC)),[]⟩ (.ret (.tup [])) none ⟨nxT (cE s).1,og (iY (fLv (cE s)) (dg (cE s).2.1 (cE s).2.2) s (lpE (cE s) asC bdC) (lN (cE s).1)),[]⟩:=by
 refine SCall.aTf (fn:=Go.Proofs.Tryz.f25) (by kernel_rfl) bCu (by kernel_rfl) (by kernel_rfl) (by have:=rR (cE s).1;omega) (aGs _) (fun c hc=>?_) trivial ?_
 ·by_cases h4:c=1003
  ·subst h4;exact .inl rfl
  ·exact .inr fun o ho=>wB (rR _) (aGo _) (aKw _) (tX _) (aPc _ _ _) c o h4 ho
 unfold bBj
 have wd:=aNj (nx:=1005) (ol:=bBi s (lpS .ready none asC bdC)) (lc:=[]) rfl rfl (by decide)
 have sk:=xP s h8 hl 0 (Nat.zero_le _)
 have g2:=nB s (s.length+1) 0 (Nat.zero_le _)
 refine WR.seq (WR.reg ?_)
 refine WQ.zB rfl rfl rfl rfl rfl wd rfl (WQ.q rfl ?_)
 refine WR.seq (WR.q rfl ?_)
 refine WR.seq (WR.seq (WR.m 1 rfl ?_))
 refine WQ.c rfl (sk _).more .base rfl (WQ.q rfl ?_)
 refine WR.block (WR.loop (WLr.weak (s:=SL.toS ⟨tmI (mM s (s.length+1) 0) ([]:List Tk).length,[],none,nxT [],aLz [] s (lpS .ready none asC bdC),[]⟩) ?_ (aPs ha hb s h8 hl (cE s) (fun tm l i hR hl4 ht=>?_) (fun tm lc l a c hR=>?_) (s.length+1) _ [] (by omega) g2 (by decide) rfl)))
 ·refine SW.aP ?_ ?_
  ·exact tQ
  ·exact lQ
 ·rw[hR]
  refine WR.weak (SW.aP ht .nil) ?_
  show WR Go.Proofs.Tryz.prog [0] _ aAy _ _ _
  unfold aAy
  refine WR.m 7 rfl ?_
  refine WQ.aGt rfl rfl rfl rfl ((yY ha hb l hl4 (aIj s) (dg 0 0) aKw s).dU _) rfl (WQ.q rfl ?_)
  exact⟨rfl,_,.nil,⟨_,rfl,VLe.refl _⟩,fun _ _=>rfl⟩
 ·rw[hR]
  exact⟨rfl,_,.nil,⟨_,rfl,VLe.refl _⟩,fun _ _=>rfl⟩
theorem aEf(s:List Nat):SCall Go.Proofs.Tryz.prog [] 16 [.str s] none ⟨1000,og [],[]⟩ (.ret (.fn (.func 25) [] [.ptr 1000 0])) none ⟨1001,og [(1000,.cells false [.str s])],[]⟩:=by
 refine SCall.listed (fn:=Go.Proofs.Tryz.f16) (by kernel_rfl) bCc (by kernel_rfl) (by kernel_rfl) (Nat.le_succ _) rfl ⟨⟨trivial,trivial⟩,trivial⟩ ⟨trivial,trivial,(by show(1000:Nat)<1001;decide),trivial⟩ ?_
 unfold aZn
 refine WR.seq (WR.reg (WQ.aJ [1] 1000 _ _ _ _ rfl (WQ.aL ?_)))
 refine WR.seq (WR.q rfl ?_)
 exact WR.e
theorem aDi(s:List Nat)(h:H)(hg:aD≤h.nxt):SCall Go.Proofs.Tryz.prog [] 16 [.str s] none h (.ret (.fn (.func 25) [] [.ptr h.nxt 0])) none (h.new (.cells false [.str s])):=by
 have r0:ρL [] h.nxt 1000=h.nxt:=(lJ (bs:=[]) (i:=1000) (Nat.le_refl _)).trans (by simp[aD])
 refine SCall.aFq (n:=1) [] rfl (aEf s) .nil (by simp) (fun i=>?_) rfl (fun i c o hi ho=>by cases hi) trivial ⟨trivial,trivial⟩ ⟨trivial,trivial,(by show(1000:Nat)<1001;decide),trivial⟩ (by exact⟨⟨trivial,trivial⟩,trivial⟩) rfl ?_ rfl rfl (fun i hi=>?_) (fun c hc=>?_)
 ·show(Option.isSome none=true)↔1000≤i∧i<1000
  simp
 ·show V.fn (.func 25) [] [V.ptr (ρL [] h.nxt 1000) 0]=_
  rw[r0]
 ·have hi:i=0:=by have:i<1:=hi;omega
  subst hi
  show(h.new _).ob (ρL [] h.nxt 1000)=_
  rw[r0]
  show(if h.nxt=h.nxt then _ else _)=_
  rw[if_pos rfl];rfl
 ·have:ρL [] h.nxt 1000≠c:=hc 0 (by show 0<1;decide)
  rw[r0]at this
  show(if c=h.nxt then _ else _)=_
  rw[if_neg (fun e=>this e.symm)]
def xH(lv:V)(wr:List V)(s:List Nat)(lp:ALoop)(row:OL):OL:=
 (0,qH)::(1000,.cells false [lv])::(1001,.cells false wr)::(1002,.cells false [.str s])::(1003,.dfr none)::(1004,.loop lp)::(1005,.map tJ)::row
theorem aQk{lv:V}{wr:List V}{s:List Nat}{lp:ALoop}{row:OL}{nx:Nat}(hn:1007≤nx)(hlv:lv.In (· <nx))(hw:Ins (· <nx) wr)(hrow:fG (· <nx) row)(hlp:lp.tmps=tmA):
  ∀c o,og (xH lv wr s lp row) c=some o→fY nx o:=by
 intro c o ho
 by_cases h4:c=1003
 ·subst h4;cases ho
  exact fun E p w h=>h
 ·refine wB (lv:=lv) (wr:=wr) (s:=s) (lp:=lp) (row:=row) hn hlv hw hrow hlp c o h4 ?_
  simp only[iY,xH,aQ,if_neg h4]at ho⊢
  exact ho
theorem aWn{lv:V}{wr:List V}{s:List Nat}{lp:ALoop}(l:List Tk):olB (nxT l) (xH lv wr s lp (lN l))=true:=by
 cases l<;>rfl
theorem aPh(s:List Nat)(h8:∀c∈s,c<256)(hl:s.length<big):
  ∃lp:ALoop,SCall Go.Proofs.Tryz.prog [0] 9 [.str s] none ⟨1000,og tOl,[]⟩ (.ret (.tup [fLv (cE s),.agg (dg (cE s).2.1 (cE s).2.2)])) none ⟨nxT (cE s).1,og (xH (fLv (cE s)) (dg (cE s).2.1 (cE s).2.2) s lp (lN (cE s).1)),[]⟩:=by
 have key:=SCall.aTr (ι:=Code×Code) (P:=Go.Proofs.Tryz.prog) (gl:=[0]) (f:=9) (fn:=Go.Proofs.Tryz.f9) (rc:=rc9) (args:=[.str s]) (nx:=1000) (ol:=tOl) (nx':=fun _=>nxT (cE s).1)
  (ol':=fun c=>xH (fLv (cE s)) (dg (cE s).2.1 (cE s).2.2) s ⟨.exhausted,(match(cE s).2.2 with|0=>none|_+1=>some (.exit 0)),9,false,tmA,Go.Proofs.Tryz.f9.ntmps,[10,11],c.1,c.2⟩ (lN (cE s).1))
  (v:=fun _=>.tup [fLv (cE s),.agg (dg (cE s).2.1 (cE s).2.2)]) (by kernel_rfl) bEj (by kernel_rfl) (by kernel_rfl) (fun _=>by have:=rR (cE s).1;omega) (fun _=>aWn _) (fun _ c hc=>.inr fun o ho=>aQk (rR _) (aGo _) (aKw _) (tX _) rfl c o ho) (fun _=>⟨aGo _,⟨trivial,trivial,trivial⟩,trivial⟩) ?_
 ·obtain⟨i,hi⟩:=key
  exact⟨_,hi⟩
 unfold rc9
 refine WR.seq (WR.q rfl ?_)
 refine WR.scope (WR.seq (WR.reg (WQ.aJ [4] 1000 _ _ _ _ rfl (WQ.aL ?_))))
 refine WR.seq (WR.reg (WQ.aJ [5] 1000 _ _ _ _ rfl (WQ.aL ?_)))
 refine WR.seq (WR.skip ?_)
 refine WR.seq (WR.seq (WR.m 1 rfl ?_))
 refine WQ.c rfl (aDi s _ (by decide)).more (.new .base rfl) rfl (WQ.aL ?_)
 refine WR.block (WR.rng tmA rfl rfl ?_ rfl (fun asC bdC ha hb=>?_))
 ·exact tQ
 refine⟨_,_,_,lpE (cE s) asC bdC,(match(cE s).2.2 with|0=>X.norm|_+1=>.exit 0),(aNw ha hb s h8 hl).dU _,rfl,?_,?_,?_⟩
 ·unfold lpE;split<;>simp[lpS]
 ·unfold lpE;split<;>rfl
 generalize cE s=R
 obtain⟨l,a,c⟩:=R
 have fin:∀(lv:V) (wr:List V) (lp:ALoop) (c:Nat),og (xH lv wr s lp (lN l)) c=((⟨nxT l,og (iY lv wr s lp (lN l)),[]⟩:H).put 1003 (.dfr none)).ob c:=fun lv wr lp c=>by rw[pX];rfl
 cases c with
 |zero=>
  show WR Go.Proofs.Tryz.prog [0] _ vM _ _ _
  unfold vM
  cases l with
  |nil=>
   refine WR.seq (WR.aO aV (DW.m 1000 rfl ?_))
   refine DW.stS pQ rfl rfl rfl rfl (DW.m 1000 rfl ?_)
   refine DW.cD pQ ?_
   exact WR.ret ⟨(asC,bdC),rfl,_,.cons rfl .nil,⟨_,rfl,VLe.refl _⟩,fun c _=>fin _ _ _ c⟩
  |cons x l=>
   refine WR.seq (WR.aO aV (DW.m 1000 rfl ?_))
   refine DW.stS pQ rfl rfl rfl rfl (DW.m 1000 rfl ?_)
   refine DW.cD pQ ?_
   exact WR.ret ⟨(asC,bdC),rfl,_,.cons rfl .nil,⟨_,rfl,VLe.refl _⟩,fun c _=>fin _ _ _ c⟩
 |succ c=>
  show WR Go.Proofs.Tryz.prog [0] _ vM _ _ _
  unfold vM
  cases l with
  |nil=>
   refine WR.seq (WR.aO aV (DW.m 1000 rfl ?_))
   refine DW.stS pQ rfl rfl rfl rfl (DW.m 1000 rfl ?_)
   refine DW.cD pQ ?_
   exact WR.ret ⟨(asC,bdC),rfl,_,.cons rfl .nil,⟨_,rfl,VLe.refl _⟩,fun c _=>fin _ _ _ c⟩
  |cons x l=>
   refine WR.seq (WR.aO aV (DW.m 1000 rfl ?_))
   refine DW.stS pQ rfl rfl rfl rfl (DW.m 1000 rfl ?_)
   refine DW.cD pQ ?_
   exact WR.ret ⟨(asC,bdC),rfl,_,.cons rfl .nil,⟨_,rfl,VLe.refl _⟩,fun c _=>fin _ _ _ c⟩
def aCu(s:List Nat):V:=.tup [.lst ((match(cE s).2.2 with|0=>(cE s).1|_+1=>[]).map hC) .unk,.agg (dg (cE s).2.1 (cE s).2.2)]
theorem aUr{D:Nat→Prop}(s:List Nat):(aCu s).In D:=⟨⟨aGb _,trivial⟩,⟨trivial,trivial,trivial⟩,trivial⟩
theorem aLs(s:List Nat)(h8:∀c∈s,c<256)(hl:s.length<big):SCall Go.Proofs.Tryz.prog [0] 9 [.str s] none ⟨1000,og tOl,[]⟩ (.ret (aCu s)) none ⟨nxT (cE s).1,og tOl,[]⟩:=by
 obtain⟨lp,hc⟩:=aPh s h8 hl
 unfold aCu
 refine(hc.weak (v':=aCu s) ?_).drop rfl rfl (fun c o ho=>?_) (fun c hc=>?_)
 ·unfold aCu fLv
  cases hz:(cE s).2.2 with
  |zero=>
   refine VLe.bAt ?_
   cases(cE s).1 with
   |nil=>exact VLe.unk _ _
   |cons x l=>exact VLe.unk _ _
  |succ c=>exact VLe.bAt (VLe.unk _ _)
 ·have ho:og tOl c=some o:=ho
  show og (xH _ _ _ _ _) c=some o
  simp only[tOl,xH,aQ]at ho⊢
  split at ho
  ·rename_i e;rw[if_pos e];exact ho
  ·cases ho
 ·have hc:c<1000:=hc
  show og tOl c=og (xH _ _ _ _ _) c
  simp only[tOl,xH,aQ]
  split
  ·rfl
  ·repeat rw[if_neg (by omega)]
   cases(cE s).1 with
   |nil=>rfl
   |cons x l=>simp only[lN,aQ];rw[if_neg (by omega)]
end Go.VM
end
