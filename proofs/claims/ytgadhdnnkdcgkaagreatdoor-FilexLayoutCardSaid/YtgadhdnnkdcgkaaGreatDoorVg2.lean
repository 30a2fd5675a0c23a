/- laid for this seat: VlWords VlAll VlAll2 VlAll3 VlAll4 -/
import Derived.Test.YtgadhdnnkdcgkaaGreatDoorVg1
import Derived.Test.YtgadhdnnkdcgkaaGreatDoorVmS
set_option linter.unusedVariables false
set_option linter.unusedSimpArgs false
section
/- Tokens: the words of the language, as a map. -/
set_option maxRecDepth 100000
namespace Go.VM
open Go.RowKit
def bDw:List Nat:=[112,97,99,107,97,103,101,32,105,109,112,111,114,116,32,116,121,112,101,32,115,116,114,117,99,116,32,105,110,116,101,114,102,97,99,101,32,102,117,110,99,32,108,101,116,32,105,102,32,101,108,115,101,32,102,111,114,32,114,101,116,117,114,110,32,110,101,119,32,116,114,117,101,32,102,97,108,115,101,32,105,110,116,32,98,111,111,108,32,116,101,120,116]
def mG:Obj:=.cells false (kZ .u8 zJ)
def tOl:OL:=[(0,mG)]
def mOl:OL:=[(0,mG),(1000,.map [])]
def fOl:OL:=[(0,mG),(1000,.map []),(1001,.cells false (nR.map V.str))]
def gOl:OL:=[(0,mG),(1000,.map wI),(1001,.cells false (nR.map V.str))]
def aSs(d:Nat)(r:X×SL):Option Nat×Option TV×Nat×OL×LM×List AD×Option AMode:=((match r.1 with|.ret=>some 0|.norm=>some 1|_=>none),tg r.2.tm d,r.2.nxt,r.2.ol,r.2.lc,r.2.df,r.2.u)
theorem aXr{d n:Nat}{o:Option (X×SL)}{v:Option TV}{ol:OL}{lc:LM}{df:List AD}{u:Option AMode}(h:o.map (aSs d)=some (some 0,v,n,ol,lc,df,u)):∃tm,o=some (.ret,⟨tm,df,u,n,ol,lc⟩)∧tg tm d=v:=by
 cases o with
 |none=>cases h
 |some r=>
  obtain⟨x,tm,df',u',nx,ol',lc'⟩:=r
  simp only[Option.map_some,aSs,Option.some.injEq,Prod.mk.injEq]at h
  obtain⟨h1,h2,h3,h4,h5,h6,h7⟩:=h
  subst h3;subst h4;subst h5;subst h6;subst h7
  refine⟨tm,?_,h2⟩
  cases x<;>first|rfl|cases h1
theorem aQm{d n:Nat}{o:Option (X×SL)}{v:Option TV}{ol:OL}{lc:LM}{df:List AD}{u:Option AMode}(h:o.map (aSs d)=some (some 1,v,n,ol,lc,df,u)):∃tm,o=some (.norm,⟨tm,df,u,n,ol,lc⟩)∧tg tm d=v:=by
 cases o with
 |none=>cases h
 |some r=>
  obtain⟨x,tm,df',u',nx,ol',lc'⟩:=r
  simp only[Option.map_some,aSs,Option.some.injEq,Prod.mk.injEq]at h
  obtain⟨h1,h2,h3,h4,h5,h6,h7⟩:=h
  subst h3;subst h4;subst h5;subst h6;subst h7
  refine⟨tm,?_,h2⟩
  cases x<;>first|rfl|cases h1
theorem aJu:(exe [0] Go.Proofs.Tryz.f63.ntmps [] [0,3,4,5,6,9,10,11,12] 3000 bFo ⟨kV 0 [.str bDw],[],none,1001,mOl,[]⟩).map (aSs 2)=some (some 0,some (.v (.sl 1001 0 17 (.ex 17))),1002,fOl,[],[],none):=by kernel_rfl
theorem aEa{D:Nat→Prop}:∀l:List (List Nat),Ins D (l.map V.str)
 |[]=>trivial
 |_::l=>⟨trivial,aEa l⟩
theorem jN{D:Nat→Prop}:mG.In D:=qM
theorem bDi{v:V}{nx:Nat}{ol:OL}{tm:TM}{fn:Func}{d:Nat}(hr:fn.results.toList=[.tmp d])(ht:tg tm d=some (.v v)):oB Go.Proofs.Tryz.prog fn v nx ol (SL.toS ⟨tm,[],none,nx,ol,[]⟩):=by
 refine⟨rfl,rfl,⟨[v],?_,VLe.refl _⟩,fun _ _=>rfl⟩
 rw[hr]
 simp only[rU,SL.toS,ht]
theorem aIi:SCall Go.Proofs.Tryz.prog [0] 63 [.str bDw] none ⟨1001,og mOl,[]⟩ (.ret (.sl 1001 0 17 (.ex 17))) none ⟨1002,og fOl,[]⟩:=by
 refine SCall.listed (fn:=Go.Proofs.Tryz.f63) (by kernel_rfl) bLp (by kernel_rfl) (by kernel_rfl) ((by decide)) rfl ((by exact⟨jN,trivial,aEa _,trivial⟩)) (by show(1001:Nat)<1002;decide) ?_
 unfold bFo
 obtain⟨tm,h1,h2⟩:=aXr aJu
 refine WR.exe 3000 [] [0,3,4,5,6,9,10,11,12] h1 ?_
 show oB Go.Proofs.Tryz.prog _ _ _ _ _
 exact bDi rfl h2
theorem aLg:(exe [0] Go.Proofs.Tryz.f35.ntmps [] [1,5,6,7] 3000 (.block 0 (.loop aPi)) ⟨[(1,.v (.map 1000)),(5,.v (.sl 1001 0 17 (.ex 17))),(6,.v (.int .i64 17)),(7,.v (.int .i64 0))],[],none,1002,fOl,[]⟩).map (aSs 1)=some (some 1,some (.v (.map 1000)),1002,gOl,[],[],none):=by kernel_rfl
theorem bGg{D:Nat→Prop}:gC D gOl:=⟨jN,sY _,aEa _,trivial⟩
theorem aIc:SCall Go.Proofs.Tryz.prog [0] 35 [] none ⟨1000,og tOl,[]⟩ (.ret (.map 1000)) none ⟨1002,og gOl,[]⟩:=by
 refine SCall.listed (fn:=Go.Proofs.Tryz.f35) (by kernel_rfl) bJl (by kernel_rfl) (by kernel_rfl) ((by decide)) rfl (bGg) (by show(1000:Nat)<1002;decide) ?_
 unfold bLf
 refine WR.seq (WR.q rfl ?_)
 refine WR.seq (WR.q rfl ?_)
 refine WR.seq (WR.seq (WR.reg ?_))
 refine WQ.c rfl aIi .base rfl (WQ.q rfl ?_)
 obtain⟨tm,h1,h2⟩:=aQm aLg
 refine WR.weak (s:=SL.toS ⟨[(1,.v (.map 1000)),(5,.v (.sl 1001 0 17 (.ex 17))),(6,.v (.int .i64 17)),(7,.v (.int .i64 0))],[],none,1002,fOl,[]⟩) ?_ (WR.exe 3000 [] [1,5,6,7] h1 ?_)
 ·refine SW.aM ?_ ?_
  ·exact tQ
  ·exact lQ
 show WR Go.Proofs.Tryz.prog [0] _ aDi _ _ _
 refine WR.weak (s:=SL.toS ⟨[(1,.v (.map 1000))],[],none,1002,gOl,[]⟩) (SW.aM (.cons h2 (.v (VLe.refl _)) .nil) .nil) ?_
 unfold aDi
 repeat(first|refine WR.seq ?_|refine WR.block ?_|refine WR.scope ?_|refine WR.skip ?_|refine WR.exit ?_|refine WR.aD rfl ?_|refine WR.aO rfl ?_|refine WR.m 1000 rfl ?_|refine WQ.aJ ?_|refine WR.aP aZ (DW.m 1000 rfl ?_))
 exact WR.e
def wC:OL:=[(1000,.map wI)]
theorem aKm:SCall Go.Proofs.Tryz.prog [0] 35 [] none ⟨aC,og [(0,mG)],[]⟩ (.ret (.map 1000)) none ⟨aC+2,og ((0,mG)::wC),[]⟩:=by
 refine aIc.drop rfl rfl (fun b o h=>?_) (fun b hb=>?_)
 ·show og gOl b=some o
  have h:og ((0,mG)::wC) b=some o:=h
  simp only[wC,gOl,aR]at h⊢
  split at h
  ·rename_i e;rw[if_pos e];exact h
  ·rename_i e;rw[if_neg e]
   split at h
   ·rename_i e;rw[if_pos e];exact h
   ·cases h
 ·have hb:b<1000:=hb
  show og ((0,mG)::wC) b=og gOl b
  simp only[wC,gOl,aR]
  split
  ·rfl
  ·rw[if_neg (by omega),if_neg (by omega),if_neg (by omega)]
theorem yS(ρ:Nat→Nat):Obj.ren ρ (.map wI)=.map wI:=by
 have go:∀l:List (List Nat),(l.map aKn).map (fun e=>(e.1.ren ρ,e.2.ren ρ))=l.map aKn:=by
  intro l
  induction l with
  |nil=>rfl
  |cons a l ih=>simp only[List.map_cons,ih];rfl
 simp only[Obj.ren]
 first|exact congrArg Obj.map (go nR)|rfl
theorem aLu(h:H)(ht:h.ob 0=some mG)(hf:∀b,h.nxt≤b→h.ob b=none)(hg:aC≤h.nxt):SCall Go.Proofs.Tryz.prog [0] 35 [] none h (.ret (.map h.nxt)) none {(h.new (.map wI))with nxt:=h.nxt+2}:=by
 have r0:ρL [] h.nxt 1000=h.nxt:=(oD (bs:=[]) (i:=1000) (Nat.le_refl _)).trans (by simp[aC])
 refine SCall.bHx (n:=2) (news:=wC) (g:=0) rfl (by decide) aKm (fun i hi=>?_) trivial (by show(1000:Nat)<_;decide) (by exact⟨sY _,trivial⟩) ht ?_ rfl rfl (fun i hi=>?_) (fun b hb=>?_)
 ·simp only[wC,aR]at hi
  split at hi
  ·rename_i e;subst e;exact⟨Nat.le_refl _,by decide⟩
  ·cases hi
 ·show V.map (ρL [] h.nxt 1000)=_
  rw[r0]
 ·show(if h.nxt+i=h.nxt then some (Obj.map wI)else h.ob (h.nxt+i))=_
  simp only[wC,aR]
  by_cases hi0:i=0
  ·subst hi0
   rw[if_pos (by omega),if_pos (by decide)]
   exact(congrArg some (yS _)).symm
  ·rw[if_neg (by omega),if_neg (by show ¬1000+i=1000;omega),hf _ (by omega)];rfl
 ·show(if b=h.nxt then _ else h.ob b)=_
  rw[if_neg (by omega)]
end Go.VM
end
section
/- Tokens: all of a text: rounds of the loop. -/
set_option maxRecDepth 100000
namespace Go.VM
open Go.RowKit
def scA:RC:=.seq (.reg [.op (.al [.int .i64 0,.int .i64 0,.int .i64 0,.str []]) 6,⟨0,0,some (.st (.t 6) (.t 10) 4),[],none,none⟩]) (.reg [.op (.al [.int .i64 0,.int .i64 0]) 7,⟨0,0,some (.st (.t 7) (.t 11) 2),[],none,none⟩])
def scB:RC:=.block 1 (.seq (.seq (.reg [.op (.ld (.t 7) (some 2)) 12,.op (.bld [.int .i64 0,.int .i64 0] [(0,1),(1,1)] []) 13,.op (.eq (.st [(0,.int),(1,.int)]) true (.t 12) (.t 13)) 14]) (.cond (.t 14) (.seq (.aP [⟨0,0,some (.ld (.t 7) (some 2)),[7],some 15,none⟩] [(⟨1,0,some (.st (.t 4) (.c (.lst [] (.ex 0))) 1),[4],none,none⟩,[]),(⟨2,3,some (.st (.t 5) (.t 15) 2),[5,15],none,none⟩,[])] [15]) (.exit 0)) .skip)) (.reg [.op (.ld (.t 4) none) 16,.op (.ld (.t 6) (some 4)) 17,.op (.bs 4 1 [.int .i64 0,.int .i64 0,.int .i64 0,.str []] [(0,.t 17)]) 18,.op (.app (.t 16) (.t 18) 4 40 [.int .i64 0,.int .i64 0,.int .i64 0,.str []]) 19,⟨0,0,some (.st (.t 4) (.t 19) 1),[],none,none⟩]))
def tmA:TM:=[(4,.v (.ptr 1000 0)),(5,.v (.ptr 1001 0))]
noncomputable def lpS(st:LoopState)(j:Option Code)(asC bdC:Code):ALoop:=⟨st,j,12,false,tmA,Go.Proofs.Tryz.f12.ntmps,[10,11],asC,bdC⟩
def dg(a c:Int):List V:=[.int .i64 a,.int .i64 c]
def kD(lv:V)(wr:List V)(s:List Nat)(lp:ALoop)(row:OL):OL:=
 (0,mG)::(1000,.cells false [lv])::(1001,.cells false wr)::(1002,.cells false [.str s])::(1003,.dfr (some []))::(1004,.loop lp)::(1005,.map wI)::row
def lvT:List Tk→V
 |[]=>.lst [] (.ex 0)
 |t::l=>.lst ((t::l).map jG) (.tk 1007)
def nN:List Tk→OL
 |[]=>[]
 |t::l=>[(1007,.tok (t::l).length)]
def nxT:List Tk→Nat
 |[]=>1007
 |_::_=>1008
theorem aKq{D:Nat→Prop}:∀l:List Tk,Inss D (l.map jG)
 |[]=>trivial
 |_::l=>⟨⟨trivial,trivial,trivial,trivial,trivial⟩,aKq l⟩
theorem aKb{N:Nat}{l:ALoop}(h:∀t v,tg l.tmps t=some v→∃x,v=.v x∧x.In (· <N)):iD N (.loop l):=by
 intro E p w ⟨L,h1,h2,h3,h4,h5,h6,h7,h8⟩
 refine⟨L,h1,h2,h3,h4,h5,h6,h7,h8.1,fun t v hv=>?_⟩
 obtain⟨x,rfl,hx⟩:=h t v hv
 obtain⟨x',a1,a2⟩:=h8.2 t _ hv
 cases a2 with
 |v _ _ a3=>exact⟨x',a1,.v _ _ (hx.bL E x' a3)⟩
theorem aKo{lv:V}{wr:List V}{s:List Nat}{lp:ALoop}(l:List Tk):olB (nxT l) (kD lv wr s lp (nN l))=true:=by
 cases l<;>rfl
theorem aVd{lv:V}{wr:List V}{s:List Nat}{lp lp':ALoop}{row:OL}{nx:Nat}{lc:LM}:H.put ⟨nx,og (kD lv wr s lp row),lc⟩ 1004 (.loop lp')=⟨nx,og (kD lv wr s lp' row),lc⟩:=by
 rw[rM];rfl
theorem aAd{lv:V}{wr:List V}{s:List Nat}{lp:ALoop}{row:OL}{nx:Nat}(hn:1007≤nx)(hlv:lv.In (· <nx))(hw:Ins (· <nx) wr)(hrow:gC (· <nx) row)(hlp:lp.tmps=tmA):
  ∀c o,c≠1003→og (kD lv wr s lp row) c=some o→iD nx o:=by
 intro c o h4 ho
 by_cases h5:c=1004
 ·subst h5
  cases ho
  refine aKb (fun t v hv=>?_)
  rw[hlp]at hv
  have:=aKl hv
  simp only[tmA,List.mem_cons,List.not_mem_nil,or_false,Prod.mk.injEq]at this
  rcases this with⟨_,rfl⟩|⟨_,rfl⟩
  ·exact⟨_,rfl,show 1000<nx by omega⟩
  ·exact⟨_,rfl,show 1001<nx by omega⟩
 ·simp only[kD,aR]at ho
  split at ho
  ·cases ho;exact Obj.In.bL (o:=.cells false _) jN
  split at ho
  ·cases ho;exact Obj.In.bL (o:=.cells false _) ⟨hlv,trivial⟩
  split at ho
  ·cases ho;exact Obj.In.bL (o:=.cells false _) hw
  split at ho
  ·cases ho;exact Obj.In.bL (o:=.cells false _) ⟨trivial,trivial⟩
  split at ho
  ·cases ho;exact Obj.In.bL (o:=.map _) (sY _)
  exact(eK hrow c o ho).bL
def tmR(t:Tk)(a c:Int):TM:=[(7,.l 7 0),(6,.l 6 0),(11,.v (.agg (dg a c))),(10,.v (.agg (jG t))),(4,.v (.ptr 1000 0)),(5,.v (.ptr 1001 0))]
def lcR(t:Tk)(a c:Int):LM:=[(6,jG t),(7,dg a c)]
theorem wR{nx:Nat}:∀l:List Tk,gC (· <nx) (nN l)
 |[]=>trivial
 |_::_=>⟨trivial,trivial⟩
theorem aHr{asC bdC:Code}(ha:aE Go.Proofs.Tryz.prog asC=some scA)(hb:aE Go.Proofs.Tryz.prog bdC=some scB){t:Tk}{a c:Int}{lv:V}{wr:List V}{s:List Nat}{row ol':OL}{nx nx':Nat}{j:Option Code}(hn:nx≤nx')(hol:olB nx' ol'=true)
  (hin:∀b,b<nx'→(og ol' b=og (kD lv wr s (lpS .ready none asC bdC) row) b∨∀o,og ol' b=some o→iD nx' o))
  (hw:WR Go.Proofs.Tryz.prog [0] ⟨Go.Proofs.Tryz.f12.ntmps,some 1004,12⟩ scB (SL.toS ⟨tmR t a c,[],none,nx,kD lv wr s (lpS .busy none asC bdC) row,lcR t a c⟩) (fun s2=>j=none∧aSr 1004 (lpS .ready none asC bdC) none nx' ol' s2) (fun y s2=>y≠.norm∧bBw y=some j∧aSr 1004 (lpS .ready none asC bdC) j nx' ol' s2)):
  SRound Go.Proofs.Tryz.prog [0] 1004 [.agg (jG t),.agg (dg a c)] ⟨nx,og (kD lv wr s (lpS .ready none asC bdC) row),[]⟩ (.ret (.bool j.isNone)) ⟨nx',og ol',[]⟩:=by
 refine SRound.listed (tm1:=[]) (nx1:=0) (ol1:=[]) (lc1:=[]) ha hb rfl rfl rfl hn hol hin ?_
 unfold scA
 repeat(first|refine WR.seq ?_|refine WR.block ?_|refine WR.scope ?_|refine WR.skip ?_|refine WR.exit ?_|refine WR.aD rfl ?_|refine WR.aO rfl ?_|refine WR.m 1000 rfl ?_|refine WQ.aJ ?_|refine WR.aP aZ (DW.m 1000 rfl ?_))
 refine⟨rfl,rfl,rfl,?_⟩
 have e:=aVd (lv:=lv) (wr:=wr) (s:=s) (lp:=lpS .ready none asC bdC) (lp':=lpS .busy none asC bdC) (row:=row) (nx:=nx) (lc:=lcR t a c)
 have e2:∀h,h=(⟨nx,og (kD lv wr s (lpS .busy none asC bdC) row),lcR t a c⟩:H)→(S.mk (tmR t a c) [] none h)=SL.toS ⟨tmR t a c,[],none,nx,kD lv wr s (lpS .busy none asC bdC) row,lcR t a c⟩:=by rintro _ rfl;rfl
 have e3:=e2 _ e
 refine Eq.mp ?_ hw
 exact congrArg (fun s=>WR Go.Proofs.Tryz.prog [0] ⟨Go.Proofs.Tryz.f12.ntmps,some 1004,12⟩ scB s _ _) e3.symm
theorem wZ{asC bdC:Code}{lv:V}{wr:List V}{s:List Nat}{row:OL}{nx':Nat}{tm:TM}{lc:LM}(j:Option Code):aSr 1004 (lpS .ready none asC bdC) j nx' (kD lv wr s (lpS (if j.isNone then .ready else .done) j asC bdC) row) (SL.toS ⟨tm,[],none,nx',kD lv wr s (lpS .busy none asC bdC) row,lc⟩):=by
 refine⟨rfl,rfl,fun c _=>?_⟩
 have e:=aVd (lv:=lv) (wr:=wr) (s:=s) (lp:=lpS .busy none asC bdC) (lp':=lpS (if j.isNone then .ready else .done) j asC bdC) (row:=row) (nx:=nx') (lc:=lc)
 exact(congrArg (fun h:H=>h.ob c) e).symm
theorem aVb{lv lv':V}{wr wr':List V}{s:List Nat}{lp lp':ALoop}{row row':OL}{nx':Nat}(hn:1007≤nx')(hlv:lv'.In (· <nx'))(hw:Ins (· <nx') wr')(hrow:gC (· <nx') row')(hlp:lp'.tmps=tmA):
  ∀c,c<nx'→(og (kD lv' wr' s lp' row') c=og (kD lv wr s lp row) c∨∀o,og (kD lv' wr' s lp' row') c=some o→iD nx' o):=by
 intro c _
 by_cases h:c=1003
 ·subst h;exact .inl rfl
 ·exact .inr fun o ho=>aAd hn hlv hw hrow hlp c o h ho
theorem uO(l:List Tk):1007≤nxT l:=by
 cases l with
 |nil=>exact Nat.le_refl _
 |cons _ _=>show 1007≤1008;decide
theorem bAu(l:List Tk)(t:Tk):nxT (l++[t])=1008:=by cases l<;>rfl
theorem bFn(l:List Tk):nxT l≤1008:=by
 cases l with
 |nil=>show 1007≤1008;decide
 |cons _ _=>exact Nat.le_refl _
theorem aXq(l:List Tk):(lvT l).In (· <nxT l):=by
 cases l with
 |nil=>exact⟨trivial,trivial⟩
 |cons t l=>exact⟨aKq _,(by show 1007<1008;decide),by decide⟩
theorem aBg{asC bdC:Code}(ha:aE Go.Proofs.Tryz.prog asC=some scA)(hb:aE Go.Proofs.Tryz.prog bdC=some scB)(l:List Tk)(hl:l.length≤4000)(t:Tk)(wr:List V)(hwr:∀n,Ins (· <n) wr)(s:List Nat):
  SRound Go.Proofs.Tryz.prog [0] 1004 [.agg (jG t),.agg (dg 0 0)] ⟨nxT l,og (kD (lvT l) wr s (lpS .ready none asC bdC) (nN l)),[]⟩ (.ret (.bool true)) ⟨nxT (l++[t]),og (kD (lvT (l++[t])) wr s (lpS .ready none asC bdC) (nN (l++[t]))),[]⟩:=by
 refine aHr (j:=none) ha hb (by rw[bAu];exact bFn l) (aKo (l++[t])) (aVb (uO _) (aXq _) (hwr _) (wR _) rfl) ?_
 cases l with
 |nil=>
  unfold scB
  refine WR.block (WR.seq (WR.seq (WR.reg (WQ.m 1000 rfl (WQ.aJ (WR.k rfl ?_))))))
  refine WR.m 3 rfl ?_
  refine WQ.dM rfl (iU (n2:=1) (es2:=[jG t]) rfl rfl (Nat.zero_lt_one) (by simp) (by simp[jG]) (by show 40*1≤lim;decide) rfl rfl rfl rfl) rfl ?_
  refine WQ.q rfl ?_
  exact⟨rfl,wZ (lv:=lvT [t]) (row:=nN [t]) none⟩
 |cons x l=>
  unfold scB
  refine WR.block (WR.seq (WR.seq (WR.reg (WQ.m 1000 rfl (WQ.aJ (WR.k rfl ?_))))))
  refine WR.m 3 rfl ?_
  refine WQ.dM rfl (jD (n:=(x::l).length) (n2:=(x::l++[t]).length) (es2:=(x::l++[t]).map jG) rfl rfl rfl (List.length_map ..).symm ?_ ?_ ?_ rfl ?_ ?_ rfl) rfl ?_
  ·simp[jG]
  ·simp[jG]
  ·simp only[List.length_map,List.length_cons,List.length_nil]at hl⊢;unfold lim;omega
  ·simp[jG,V.bV]
  ·simp
  refine WQ.q rfl ?_
  exact⟨rfl,wZ (lv:=lvT (x::l++[t])) (row:=nN (x::l++[t])) none⟩
theorem aTa{asC bdC:Code}(ha:aE Go.Proofs.Tryz.prog asC=some scA)(hb:aE Go.Proofs.Tryz.prog bdC=some scB)(l:List Tk)(t:Tk)(a c:Nat)(hc:c≠0)(wr:List V)(hwr:wr=dg 0 0)(s:List Nat):
  SRound Go.Proofs.Tryz.prog [0] 1004 [.agg (jG t),.agg (dg a c)] ⟨nxT l,og (kD (lvT l) wr s (lpS .ready none asC bdC) (nN l)),[]⟩ (.ret (.bool false)) ⟨nxT l,og (kD (.lst [] (.ex 0)) (dg a c) s (lpS .done (some (.exit 0)) asC bdC) (nN l)),[]⟩:=by
 subst hwr
 refine aHr (j:=some (.exit 0)) ha hb (Nat.le_refl _) (aKo l) (aVb (uO _) ⟨trivial,trivial⟩ ⟨trivial,trivial,trivial⟩ (wR _) rfl) ?_
 unfold scB
 refine WR.block (WR.seq (WR.seq (WR.q rfl ?_)))
 refine WR.aD (show _=some (V.bool true)from ?_) ?_
 ·show some (V.bool (!(decide ((a:Int)=0)&&(decide ((c:Int)=0)&&true))))=_
  rw[show decide ((c:Int)=0)=false from decide_eq_false (by omega),Bool.false_and,Bool.and_false];rfl
 cases l with
 |nil=>
  refine WR.seq (WR.aP aZ (DW.m 1000 rfl ?_))
  refine DW.stS pQ rfl rfl rfl rfl (DW.m 1000 rfl ?_)
  refine DW.stS pQ rfl rfl rfl rfl (DW.m 1000 rfl ?_)
  refine DW.cC pQ (WR.exit ?_)
  exact⟨(fun h=>by cases h),rfl,wZ (lv:=.lst [] (.ex 0)) (row:=nN []) (some (.exit 0))⟩
 |cons x l=>
  refine WR.seq (WR.aP aZ (DW.m 1000 rfl ?_))
  refine DW.stS pQ rfl rfl rfl rfl (DW.m 1000 rfl ?_)
  refine DW.stS pQ rfl rfl rfl rfl (DW.m 1000 rfl ?_)
  refine DW.cC pQ (WR.exit ?_)
  exact⟨(fun h=>by cases h),rfl,wZ (lv:=.lst [] (.ex 0)) (row:=nN (x::l)) (some (.exit 0))⟩
end Go.VM
end
section
/- Tokens: all of a text: one by one. -/
set_option maxRecDepth 100000
namespace Go.VM
open Go.RowKit
def aLh(s:List Nat)(i c n:Nat):Tk×Nat:=((eN s i c).1,if n≥4000 then 6 else(eN s i c).2)
def aAf(s:List Nat):Tk:=⟨0,s.length,s.length,[]⟩
def oU(s:List Nat):Nat→Nat→List Tk→List Tk×Nat×Nat
 |0,_,l=>(l,0,0)
 |m+1,i,l=>match s[i]? with
  |none=>(l++[aAf s],0,0)
  |some c=>match aLh s i c l.length with
   |(t,0)=>oU s m (jH s (s.length+1) t.e) (l++[{t with text:=(s.drop i).take (t.e-i)}])
   |(_,w+1)=>(l,i,w+1)
theorem aHt{p:Nat→Bool}{s:List Nat}{i c:Nat}(hc:s[i]? =some c)(h:p c=true):1≤bE p (s.drop i):=by
 have hi:=(List.getElem?_eq_some_iff.1 hc).1
 rw[List.drop_eq_getElem_cons hi]
 have:s[i]=c:=by rw[List.getElem?_eq_getElem hi]at hc;exact Option.some.inj hc
 rw[this,bE,h]
 simp only
 omega
theorem yV{s:List Nat}{i c:Nat}(hc:s[i]? =some c)(h:(eN s i c).2=0):i<(eN s i c).1.e∧(eN s i c).1.e≤s.length∧(eN s i c).1.text=[]:=by
 have hi:=(List.getElem?_eq_some_iff.1 hc).1
 have le:∀p,bE p (s.drop i)≤s.length-i:=fun p=>by have:=gK p (s.drop i);rwa[List.length_drop]at this
 cases hL:eS c with
 |true=>
  rw[jQ hL]at h⊢
  have h1:=aHt (p:=kX) hc (by unfold kX;rw[hL];rfl)
  have h2:=le kX
  exact⟨by simp only;omega,by simp only;omega,rfl⟩
 |false=>
  cases hD:dL c with
  |true=>
   rw[kR hL hD]at h⊢
   have h1:=aHt (p:=dL) hc hD
   have h2:=le dL
   exact⟨by simp only;omega,by simp only;omega,rfl⟩
  |false=>
   by_cases h34:c=34
   ·rw[nB hL hD h34]at h⊢
    unfold wF at h⊢
    cases hb:aJc s i with
    |true=>rw[hb]at h;cases h
    |false=>
     rw[hb]at h
     unfold aJc at hb
     simp only[Bool.or_eq_false_iff]at hb
     cases hq:s[vC s i]? with
     |none=>rw[hq]at hb;cases hb.1
     |some x=>
      have hlt:=(List.getElem?_eq_some_iff.1 hq).1
      have:i+1≤vC s i:=by unfold vC;omega
      exact⟨by simp only;omega,by simp only;omega,rfl⟩
   ·cases hp:dZ (s.drop i) [61,61]||dZ (s.drop i) [38,38]with
    |true=>
     rw[pT hL hD h34 hp]at h⊢
     have:2≤(s.drop i).length:=by
      cases h1:dZ (s.drop i) [61,61]with
      |true=>exact aPd h1
      |false=>rw[h1,Bool.false_or]at hp;exact aPd hp
     rw[List.length_drop]at this
     exact⟨by simp only;omega,by simp only;omega,rfl⟩
    |false=>
     rw[mT hL hD h34 hp]at h⊢
     exact⟨by simp only;omega,by simp only;omega,rfl⟩
theorem oY(s:List Nat):∀(n i:Nat),i≤jH s n i
 |0,i=>Nat.le_refl _
 |n+1,i=>by
  rw[jH]
  split
  ·have:=oY s n (i+bE bF (s.drop i)+bE fN (s.drop (i+bE bF (s.drop i))));omega
  ·omega
theorem mQ(s:List Nat):∀(n i:Nat),i≤s.length→jH s n i≤s.length
 |0,i,h=>h
 |n+1,i,h=>by
  have c1:=gK bF (s.drop i)
  rw[List.length_drop]at c1
  have c2:=gK fN (s.drop (i+bE bF (s.drop i)))
  rw[List.length_drop]at c2
  rw[jH]
  split
  ·exact mQ s n _ (by omega)
  ·omega
def tmI(i n:Nat):TM:=[(0,.v (.fn (.yield 1004) [] [])),(1,.v (.ptr 1002 0)),(3,.v (.map 1005)),(4,.v (.int .i64 n)),(5,.v (.int .i64 i))]
def tmJ(i n:Nat):TM:=(6,.l 6 0)::tmI i n
noncomputable def aSn(l:List Tk)(s:List Nat)(lp:ALoop):OL:=kD (lvT l) (dg 0 0) s lp (nN l)
theorem aNf{a c:Int}(n:Nat):Ins (· <n) (dg a c):=⟨trivial,trivial,trivial⟩
theorem aYq(s:List Nat)(h8:∀c∈s,c<256)(hl:s.length<big)(i c M:Nat)(hc:s[i]? =some c)(h:H)(hM:aC≤M)(hm:h.ob M=some (.map wI)):
  SCall Go.Proofs.Tryz.prog [] 37 [.str s,.int .i64 i,.map M] none h (.ret (oK (eN s i c))) none h:=by
 have r0:ρL [M] h.nxt 1000=M:=xZ (bs:=[M]) (i:=0) rfl
 refine SCall.aLm (n:=0) [M] rfl (aKk s h8 hl i c hc) (by simp) (by simpa using hM) (fun j=>?_) rfl (fun j b o hj ho=>?_) aFj (by exact⟨trivial,trivial,(by show(1000:Nat)<1001;decide),trivial⟩) (by exact pY _) aFj ?_ (V.rK (D:=fun _=>False) (fun _ q=>q.elim) (pY _)) rfl rfl (fun j hj=>?_) (fun b hb=>rfl)
 ·show(og wOl j).isSome=true↔1000≤j∧j<1001
  simp only[wOl,aR]
  split
  ·rename_i e;subst e;simp
  ·rename_i e;simp[og];omega
 ·cases j with
  |zero=>
   cases hj
   cases ho
   rw[hm,yS]
  |succ j=>simp at hj
 ·show [V.str s,V.int .i64 i,V.map (ρL [M] h.nxt 1000)]=_
  rw[r0]
 ·have:j=0:=by have:j<1:=hj;omega
  subst this
  show h.ob (ρL [M] h.nxt 1000)=(some (Obj.map wI)).map _
  rw[r0,hm]
  exact(congrArg some (yS _)).symm
end Go.VM
end
section
/- Tokens: the iterator. -/
set_option maxRecDepth 100000
namespace Go.VM
open Go.RowKit
theorem aQs{nx:Nat}{ol:OL}{lc:LM}(h0:og ol 0=some mG)(hb:olB nx ol=true)(hg:aC≤nx):SCall Go.Proofs.Tryz.prog [0] 35 [] none ⟨nx,og ol,lc⟩ (.ret (.map nx)) none ⟨nx+2,og (oset ol nx (.map wI)),lc⟩:=by
 have:=aLu ⟨nx,og ol,lc⟩ h0 (fun b hb'=>dR hb b hb') hg
 rw[pG]at this
 exact this
theorem aYd{asC bdC:Code}(ha:aE Go.Proofs.Tryz.prog asC=some scA)(hb:aE Go.Proofs.Tryz.prog bdC=some scB)(s:List Nat)(h8:∀c∈s,c<256)(hl:s.length<big)(R:List Tk×Nat×Nat){QN:S→Prop}{QX:X→S→Prop}
  (h0:∀tm l i,R=(l++[aAf s],0,0)→l.length≤4000→TellT tm [] (tmI i l.length)→QX (.exit 0) (SL.toS ⟨tm,[],none,nxT l,aSn l s (lpS .ready none asC bdC),[]⟩))
  (h1:∀tm lc l a c,R=(l,a,c+1)→QX .ret (SL.toS ⟨tm,[],none,nxT l,kD (.lst [] (.ex 0)) (dg a (c+1:Nat)) s (lpS .done (some (.exit 0)) asC bdC) (nN l),lc⟩)):
  ∀(m i:Nat) (l:List Tk),s.length<i+m→i≤s.length→l.length≤4000→R=oU s m i l→
  WLr Go.Proofs.Tryz.prog [0] ⟨Go.Proofs.Tryz.f34.ntmps,none,34⟩ aDj (SL.toS ⟨tmI i l.length,[],none,nxT l,aSn l s (lpS .ready none asC bdC),[]⟩) QN QX:=by
 intro m
 induction m with
 |zero=>intro i l h;omega
 |succ m ih=>
  intro i l hm hi hl4 hR
  rw[oU]at hR
  unfold aDj
  refine WLr.of ?_
  refine WR.seq (WR.seq (WR.q rfl ?_))
  cases hc:s[i]? with
  |none=>
   rw[hc]at hR
   have:s.length≤i:=List.getElem?_eq_none_iff.1 hc
   refine WR.aO (show _=some (V.bool false)from ?_) (WR.exit (h0 _ l i hR hl4 ?_))
   ·show some (V.bool (decide ((i:Int)<(s.length:Int))))=_
    rw[decide_eq_false (by omega)]
   ·exact tQ
  |some c=>
   rw[hc]at hR
   dsimp only at hR
   have hlt:=(List.getElem?_eq_some_iff.1 hc).1
   refine WR.aD (show _=some (V.bool true)from ?_) (WR.skip ?_)
   ·show some (V.bool (decide ((i:Int)<(s.length:Int))))=_
    rw[decide_eq_true (by omega)]
   have tk:=aYq s h8 hl i c 1005 hc ⟨nxT l,og (aSn l s (lpS .ready none asC bdC)),[]⟩ (by decide) rfl
   have hpos:=yV hc
   have hW:aLh s i c l.length=((eN s i c).1,if l.length≥4000 then 6 else(eN s i c).2):=rfl
   generalize eN s i c=T at tk hpos hW
   obtain⟨⟨tkd,tka,tke,tkx⟩,w⟩:=T
   refine WR.seq (WR.block (WR.seq (WR.m 3 rfl ?_)))
   refine WQ.c rfl tk.more .base rfl (WQ.q rfl ?_)
   refine WR.seq (WR.seq (WR.reg (WQ.m 2 rfl (WQ.aJ ?_))))
   have bad:∀(tm:TM) (wx:Nat),TellT tm [(6,jG ⟨tkd,tka,tke,tkx⟩)] ((7,.v (.int .i64 (wx+1:Nat)))::tmJ i l.length)→R=(l,i,wx+1)→∀QN2 QX2,(∀st,QX .ret st→QX2 .ret st)→
     WR Go.Proofs.Tryz.prog [0] ⟨Go.Proofs.Tryz.f34.ntmps,none,34⟩ wN (SL.toS ⟨tm,[],none,nxT l,aSn l s (lpS .ready none asC bdC),[(6,jG ⟨tkd,tka,tke,tkx⟩)]⟩) QN2 QX2:=by
    intro tm wx ht hRx QN2 QX2 hq
    refine WR.weak (SW.aM ht (.cons rfl (.inl rfl) .nil)) ?_
    unfold wN
    refine WR.seq (WR.seq (WR.q rfl ?_))
    refine WR.aD (show _=some (V.bool true)from ?_) ?_
    ·show some (V.bool (!decide (((wx+1:Nat):Int)=0)))=_
     rw[decide_eq_false (by omega)];rfl
    refine WR.seq (WR.m 5 rfl ?_)
    refine WQ.aKw rfl rfl rfl rfl ((aTa ha hb l ⟨tkd,tka,tke,tkx⟩ i (wx+1) (by omega) (dg 0 0) rfl s).fI _) rfl (WQ.q rfl ?_)
    exact WR.ret (hq _ (h1 _ _ l i wx hRx))
   by_cases h4:l.length≥4000
   ·rw[show decide ((l.length:Int)≥4000)=true from decide_eq_true (by omega)]
    rw[if_pos h4]at hW
    rw[hW]at hR
    refine WR.aD rfl (WR.q rfl ?_)
    refine bad _ 5 ?_ hR _ _ (fun st q=>q)
    exact tQ
   rw[show decide ((l.length:Int)≥4000)=false from decide_eq_false (by omega)]
   rw[if_neg h4]at hW
   rw[hW]at hR
   refine WR.k rfl ?_
   cases w with
   |succ w=>
    refine bad _ w ?_ hR _ _ (fun st q=>q)
    exact tQ
   |zero=>
    obtain⟨p1,p2,p3⟩:=hpos rfl
    simp only at p1 p2 p3 hR
    subst p3
    have sk:=aBx s h8 hl tke p2
    have g1:=oY s (s.length+1) tke
    have g2:=mQ s (s.length+1) tke p2
    unfold wN
    refine WR.seq (WR.seq (WR.reg (WQ.m 1000 rfl (WQ.aJ (WR.k rfl ?_)))))
    refine WR.seq (WR.m 4 rfl ?_)
    refine WQ.bD rfl rfl rfl (aDn rfl rfl rfl (by omega) p2) rfl (WQ.q rfl ?_)
    refine WR.seq (WR.seq (WR.m 3 rfl ?_))
    refine WQ.aKw rfl rfl rfl rfl ((aBg ha hb l hl4 ⟨tkd,tka,tke,(s.drop i).take (tke-i)⟩ (dg 0 0) aNf s).fI _) rfl (WQ.m 1000 rfl (WQ.aJ (WR.k rfl ?_)))
    refine WR.m 3 rfl ?_
    refine WQ.c rfl (sk _).more .base rfl (WQ.q rfl ?_)
    unfold aNn
    refine WR.m 2 rfl ?_
    rw[bI (by unfold big;omega)]
    refine WQ.q rfl ?_
    refine WIr.again (WLr.weak (s:=SL.toS ⟨tmI (jH s (s.length+1) tke) (l++[(⟨tkd,tka,tke,(s.drop i).take (tke-i)⟩:Tk)]).length,[],none,nxT (l++[(⟨tkd,tka,tke,(s.drop i).take (tke-i)⟩:Tk)]),aSn (l++[(⟨tkd,tka,tke,(s.drop i).take (tke-i)⟩:Tk)]) s (lpS .ready none asC bdC),[]⟩) ?_ (ih _ _ (by omega) g2 (by simp;omega) hR))
    rw[List.length_append]
    refine SW.aM ?_ ?_
    ·exact tQ
    ·exact lQ
end Go.VM
end
section
/- Tokens: All. -/
set_option maxRecDepth 100000
namespace Go.VM
open Go.RowKit
def bK(s:List Nat):List Tk×Nat×Nat:=oU s (s.length+1) (jH s (s.length+1) 0) []
def fLv(R:List Tk×Nat×Nat):V:=match R.2.2 with
 |0=>lvT R.1
 |_+1=>.lst [] (.ex 0)
noncomputable def lpE(R:List Tk×Nat×Nat)(asC bdC:Code):ALoop:=match R.2.2 with
 |0=>lpS .ready none asC bdC
 |_+1=>lpS .done (some (.exit 0)) asC bdC
theorem aXx(R:List Tk×Nat×Nat)(asC bdC:Code):(lpE R asC bdC).tmps=tmA:=by
 unfold lpE;split<;>rfl
theorem aLi(R:List Tk×Nat×Nat):(fLv R).In (· <nxT R.1):=by
 unfold fLv
 split
 ·exact aXq _
 ·exact⟨trivial,trivial⟩
theorem VLe.bLd{a b c:V}(h:VLe a b):VLe (.tup [a,c]) (.tup [b,c]):=by
 intro E x r
 cases r with
 |tup _ cs hcs=>
  refine .tup _ _ ?_
  generalize cs.toList=q at hcs
  cases hcs with
  |cons _ v1 _ l1 r1 t1=>exact .cons _ _ _ _ (h E _ r1) t1
def bJy(s:List Nat)(lp:ALoop):OL:=(0,mG)::(1000,.cells false [.lst [] (.ex 0)])::(1001,.cells false (dg 0 0))::(1002,.cells false [.str s])::(1003,.dfr (some []))::(1004,.loop lp)::[]
theorem aSj{asC bdC:Code}(ha:aE Go.Proofs.Tryz.prog asC=some scA)(hb:aE Go.Proofs.Tryz.prog bdC=some scB)(s:List Nat)(h8:∀c∈s,c<256)(hl:s.length<big):
  SCall Go.Proofs.Tryz.prog [0] 34 [.fn (.yield 1004) [] [],.ptr 1002 0] none ⟨1005,og (bJy s (lpS .ready none asC bdC)),[]⟩ (.ret (.tup [])) none ⟨nxT (bK s).1,og (kD (fLv (bK s)) (dg (bK s).2.1 (bK s).2.2) s (lpE (bK s) asC bdC) (nN (bK s).1)),[]⟩:=by
 refine SCall.bCq (fn:=Go.Proofs.Tryz.f34) (by kernel_rfl) bIr (by kernel_rfl) (by kernel_rfl) (by have:=uO (bK s).1;omega) (aKo _) (fun c hc=>?_) trivial ?_
 ·by_cases h4:c=1003
  ·subst h4;exact .inl rfl
  ·exact .inr fun o ho=>aAd (uO _) (aLi _) (aNf _) (wR _) (aXx _ _ _) c o h4 ho
 unfold bJd
 have wd:=aQs (nx:=1005) (ol:=bJy s (lpS .ready none asC bdC)) (lc:=[]) rfl rfl (by decide)
 have sk:=aBx s h8 hl 0 (Nat.zero_le _)
 have g2:=mQ s (s.length+1) 0 (Nat.zero_le _)
 refine WR.seq (WR.reg ?_)
 refine WQ.aBw rfl rfl rfl rfl rfl wd rfl (WQ.q rfl ?_)
 refine WR.seq (WR.q rfl ?_)
 refine WR.seq (WR.seq (WR.m 1 rfl ?_))
 refine WQ.c rfl (sk _).more .base rfl (WQ.q rfl ?_)
 refine WR.block (WR.loop (WLr.weak (s:=SL.toS ⟨tmI (jH s (s.length+1) 0) ([]:List Tk).length,[],none,nxT [],aSn [] s (lpS .ready none asC bdC),[]⟩) ?_ (aYd ha hb s h8 hl (bK s) (fun tm l i hR hl4 ht=>?_) (fun tm lc l a c hR=>?_) (s.length+1) _ [] (by omega) g2 (by decide) rfl)))
 ·refine SW.aM ?_ ?_
  ·exact tQ
  ·exact lQ
 ·rw[hR]
  refine WR.weak (SW.aM ht .nil) ?_
  show WR Go.Proofs.Tryz.prog [0] _ aEj _ _ _
  unfold aEj
  refine WR.m 7 rfl ?_
  refine WQ.aKw rfl rfl rfl rfl ((aBg ha hb l hl4 (aAf s) (dg 0 0) aNf s).fI _) rfl (WQ.q rfl ?_)
  exact⟨rfl,_,.nil,⟨_,rfl,VLe.refl _⟩,fun _ _=>rfl⟩
 ·rw[hR]
  exact⟨rfl,_,.nil,⟨_,rfl,VLe.refl _⟩,fun _ _=>rfl⟩
theorem aJf(s:List Nat):SCall Go.Proofs.Tryz.prog [] 18 [.str s] none ⟨1000,og [],[]⟩ (.ret (.fn (.func 34) [] [.ptr 1000 0])) none ⟨1001,og [(1000,.cells false [.str s])],[]⟩:=by
 refine SCall.listed (fn:=Go.Proofs.Tryz.f18) (by kernel_rfl) bJc (by kernel_rfl) (by kernel_rfl) (Nat.le_succ _) rfl ⟨⟨trivial,trivial⟩,trivial⟩ ⟨trivial,trivial,(by show(1000:Nat)<1001;decide),trivial⟩ ?_
 unfold bLk
 refine WR.seq (WR.reg (WQ.aG [1] 1000 _ _ _ _ rfl (WQ.aJ ?_)))
 refine WR.seq (WR.q rfl ?_)
 exact WR.e
theorem aJk(s:List Nat)(h:H)(hg:aC≤h.nxt):SCall Go.Proofs.Tryz.prog [] 18 [.str s] none h (.ret (.fn (.func 34) [] [.ptr h.nxt 0])) none (h.new (.cells false [.str s])):=by
 have r0:ρL [] h.nxt 1000=h.nxt:=(oD (bs:=[]) (i:=1000) (Nat.le_refl _)).trans (by simp[aC])
 refine SCall.aLm (n:=1) [] rfl (aJf s) .nil (by simp) (fun i=>?_) rfl (fun i c o hi ho=>by cases hi) trivial ⟨trivial,trivial⟩ ⟨trivial,trivial,(by show(1000:Nat)<1001;decide),trivial⟩ (by exact⟨⟨trivial,trivial⟩,trivial⟩) rfl ?_ rfl rfl (fun i hi=>?_) (fun c hc=>?_)
 ·show(Option.isSome none=true)↔1000≤i∧i<1000
  simp
 ·show V.fn (.func 34) [] [V.ptr (ρL [] h.nxt 1000) 0]=_
  rw[r0]
 ·have hi:i=0:=by have:i<1:=hi;omega
  subst hi
  show(h.new _).ob (ρL [] h.nxt 1000)=_
  rw[r0]
  show(if h.nxt=h.nxt then _ else _)=_
  rw[if_pos rfl];rfl
 ·have:ρL [] h.nxt 1000≠c:=hc 0 (by show 0<1;decide)
  rw[r0]at this
  show(if c=h.nxt then _ else _)=_
  rw[if_neg (fun e=>this e.symm)]
def aAr(lv:V)(wr:List V)(s:List Nat)(lp:ALoop)(row:OL):OL:=
 (0,mG)::(1000,.cells false [lv])::(1001,.cells false wr)::(1002,.cells false [.str s])::(1003,.dfr none)::(1004,.loop lp)::(1005,.map wI)::row
theorem aZi{lv:V}{wr:List V}{s:List Nat}{lp:ALoop}{row:OL}{nx:Nat}(hn:1007≤nx)(hlv:lv.In (· <nx))(hw:Ins (· <nx) wr)(hrow:gC (· <nx) row)(hlp:lp.tmps=tmA):
  ∀c o,og (aAr lv wr s lp row) c=some o→iD nx o:=by
 intro c o ho
 by_cases h4:c=1003
 ·subst h4;cases ho
  exact fun E p w h=>h
 ·refine aAd (lv:=lv) (wr:=wr) (s:=s) (lp:=lp) (row:=row) hn hlv hw hrow hlp c o h4 ?_
  simp only[kD,aAr,aR,if_neg h4]at ho⊢
  exact ho
theorem bHd{lv:V}{wr:List V}{s:List Nat}{lp:ALoop}(l:List Tk):olB (nxT l) (aAr lv wr s lp (nN l))=true:=by
 cases l<;>rfl
theorem aZn(s:List Nat)(h8:∀c∈s,c<256)(hl:s.length<big):
  ∃lp:ALoop,SCall Go.Proofs.Tryz.prog [0] 12 [.str s] none ⟨1000,og tOl,[]⟩ (.ret (.tup [fLv (bK s),.agg (dg (bK s).2.1 (bK s).2.2)])) none ⟨nxT (bK s).1,og (aAr (fLv (bK s)) (dg (bK s).2.1 (bK s).2.2) s lp (nN (bK s).1)),[]⟩:=by
 have key:=SCall.bBx (ι:=Code×Code) (P:=Go.Proofs.Tryz.prog) (gl:=[0]) (f:=12) (fn:=Go.Proofs.Tryz.f12) (rc:=bGp) (args:=[.str s]) (nx:=1000) (ol:=tOl) (nx':=fun _=>nxT (bK s).1)
  (ol':=fun c=>aAr (fLv (bK s)) (dg (bK s).2.1 (bK s).2.2) s ⟨.exhausted,(match(bK s).2.2 with|0=>none|_+1=>some (.exit 0)),12,false,tmA,Go.Proofs.Tryz.f12.ntmps,[10,11],c.1,c.2⟩ (nN (bK s).1))
  (v:=fun _=>.tup [fLv (bK s),.agg (dg (bK s).2.1 (bK s).2.2)]) (by kernel_rfl) bMt (by kernel_rfl) (by kernel_rfl) (fun _=>by have:=uO (bK s).1;omega) (fun _=>bHd _) (fun _ c hc=>.inr fun o ho=>aZi (uO _) (aLi _) (aNf _) (wR _) rfl c o ho) (fun _=>⟨aLi _,⟨trivial,trivial,trivial⟩,trivial⟩) ?_
 ·obtain⟨i,hi⟩:=key
  exact⟨_,hi⟩
 unfold bGp
 refine WR.seq (WR.q rfl ?_)
 refine WR.scope (WR.seq (WR.reg (WQ.aG [4] 1000 _ _ _ _ rfl (WQ.aJ ?_))))
 refine WR.seq (WR.reg (WQ.aG [5] 1000 _ _ _ _ rfl (WQ.aJ ?_)))
 refine WR.seq (WR.skip ?_)
 refine WR.seq (WR.seq (WR.m 1 rfl ?_))
 refine WQ.c rfl (aJk s _ (by decide)).more (.new .base rfl) rfl (WQ.aJ ?_)
 refine WR.block (WR.rng tmA rfl rfl ?_ rfl (fun asC bdC ha hb=>?_))
 ·exact tQ
 refine⟨_,_,_,lpE (bK s) asC bdC,(match(bK s).2.2 with|0=>X.norm|_+1=>.exit 0),(aSj ha hb s h8 hl).fI _,rfl,?_,?_,?_⟩
 ·unfold lpE;split<;>simp[lpS]
 ·unfold lpE;split<;>rfl
 generalize bK s=R
 obtain⟨l,a,c⟩:=R
 have fin:∀(lv:V) (wr:List V) (lp:ALoop) (c:Nat),og (aAr lv wr s lp (nN l)) c=((⟨nxT l,og (kD lv wr s lp (nN l)),[]⟩:H).put 1003 (.dfr none)).ob c:=fun lv wr lp c=>by rw[rM];rfl
 cases c with
 |zero=>
  show WR Go.Proofs.Tryz.prog [0] _ sV _ _ _
  unfold sV
  cases l with
  |nil=>
   refine WR.seq (WR.aP aZ (DW.m 1000 rfl ?_))
   refine DW.stS pQ rfl rfl rfl rfl (DW.m 1000 rfl ?_)
   refine DW.cC pQ ?_
   exact WR.ret ⟨(asC,bdC),rfl,_,.cons rfl .nil,⟨_,rfl,VLe.refl _⟩,fun c _=>fin _ _ _ c⟩
  |cons x l=>
   refine WR.seq (WR.aP aZ (DW.m 1000 rfl ?_))
   refine DW.stS pQ rfl rfl rfl rfl (DW.m 1000 rfl ?_)
   refine DW.cC pQ ?_
   exact WR.ret ⟨(asC,bdC),rfl,_,.cons rfl .nil,⟨_,rfl,VLe.refl _⟩,fun c _=>fin _ _ _ c⟩
 |succ c=>
  show WR Go.Proofs.Tryz.prog [0] _ sV _ _ _
  unfold sV
  cases l with
  |nil=>
   refine WR.seq (WR.aP aZ (DW.m 1000 rfl ?_))
   refine DW.stS pQ rfl rfl rfl rfl (DW.m 1000 rfl ?_)
   refine DW.cC pQ ?_
   exact WR.ret ⟨(asC,bdC),rfl,_,.cons rfl .nil,⟨_,rfl,VLe.refl _⟩,fun c _=>fin _ _ _ c⟩
  |cons x l=>
   refine WR.seq (WR.aP aZ (DW.m 1000 rfl ?_))
   refine DW.stS pQ rfl rfl rfl rfl (DW.m 1000 rfl ?_)
   refine DW.cC pQ ?_
   exact WR.ret ⟨(asC,bdC),rfl,_,.cons rfl .nil,⟨_,rfl,VLe.refl _⟩,fun c _=>fin _ _ _ c⟩
def aGp(s:List Nat):V:=.tup [.lst ((match(bK s).2.2 with|0=>(bK s).1|_+1=>[]).map jG) .unk,.agg (dg (bK s).2.1 (bK s).2.2)]
theorem bBm{D:Nat→Prop}(s:List Nat):(aGp s).In D:=⟨⟨aKq _,trivial⟩,⟨trivial,trivial,trivial⟩,trivial⟩
theorem aRo(s:List Nat)(h8:∀c∈s,c<256)(hl:s.length<big):SCall Go.Proofs.Tryz.prog [0] 12 [.str s] none ⟨1000,og tOl,[]⟩ (.ret (aGp s)) none ⟨nxT (bK s).1,og tOl,[]⟩:=by
 obtain⟨lp,hc⟩:=aZn s h8 hl
 unfold aGp
 refine(hc.weak (v':=aGp s) ?_).drop rfl rfl (fun c o ho=>?_) (fun c hc=>?_)
 ·unfold aGp fLv
  cases hz:(bK s).2.2 with
  |zero=>
   refine VLe.bLd ?_
   cases(bK s).1 with
   |nil=>exact VLe.unk _ _
   |cons x l=>exact VLe.unk _ _
  |succ c=>exact VLe.bLd (VLe.unk _ _)
 ·have ho:og tOl c=some o:=ho
  show og (aAr _ _ _ _ _) c=some o
  simp only[tOl,aAr,aR]at ho⊢
  split at ho
  ·rename_i e;rw[if_pos e];exact ho
  ·cases ho
 ·have hc:c<1000:=hc
  show og tOl c=og (aAr _ _ _ _ _) c
  simp only[tOl,aAr,aR]
  split
  ·rfl
  ·repeat rw[if_neg (by omega)]
   cases(bK s).1 with
   |nil=>rfl
   |cons x l=>simp only[nN,aR];rw[if_neg (by omega)]
end Go.VM
end
