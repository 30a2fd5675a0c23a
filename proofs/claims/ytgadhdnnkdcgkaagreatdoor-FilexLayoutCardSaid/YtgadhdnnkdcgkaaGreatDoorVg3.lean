/- laid for this seat: VxA VxB VxC VxD VxE VxF VxG -/
import Derived.Test.YtgadhdnnkdcgkaaGreatDoorVmS
import Derived.Test.YtgadhdnnkdcgkaaGreatDoorVmR
import Derived.Test.YtgadhdnnkdcgkaaGreatDoorVg1
set_option linter.unusedVariables false
set_option linter.unusedSimpArgs false
section
/- Expressions: tokens, the reader in memory, the token at hand. -/
set_option maxRecDepth 100000
namespace Go.VM
open Go.RowKit
structure Tz where
 k:Int
 a:Int
 e:Int
 t:List Nat
def cD(t:Tz):List V:=[.int .i64 t.k,.int .i64 t.a,.int .i64 t.e,.str t.t]
def wG(l:List Tz):Int:=match l.getLast? with|some t=>t.e|none=>0
def aA(l:List Tz)(a:Nat):Tz:=match l[a]? with|some t=>t|none=>⟨0,wG l,wG l,[]⟩
def isF(l:List Tz)(a:Nat)(k:Int)(s:List Nat):Bool:=decide ((aA l a).k=k)&&decide ((aA l a).t=s)
theorem aAa{D:Nat→Prop}:∀l:List Tz,Inss D (l.map cD)
 |[]=>trivial
 |_::l=>⟨⟨trivial,trivial,trivial,trivial,trivial⟩,aAa l⟩
theorem aCv(ρ:Nat→Nat)(l:List Tz):nL ρ (l.map cD)=l.map cD:=aBi fun _ _=>rfl
def bHa:List (V×V):=[(.str [38,38],.int .i64 1),(.str [61,61],.int .i64 2),(.str [60],.int .i64 2),(.str [43],.int .i64 3),(.str [45],.int .i64 3),(.str [42],.int .i64 4)]
def rdC(M:Nat)(l:List Tz)(a d:Nat):List V:=[.lst (l.map cD) .unk,.int .i64 a,.int .i64 d,.map M]
def rdO(M:Nat)(l:List Tz)(a d:Nat):Obj:=.cells false (rdC M l a d)
def pD:Obj:=.map bHa
def rdL(l:List Tz)(a d:Nat):OL:=[(1000,rdO 1001 l a d),(1001,pD)]
theorem aEh(ρ:Nat→Nat)(l:List Tz)(a d:Nat):Obj.ren ρ (rdO 1001 l a d)=rdO (ρ 1001) l a d:=by
 simp only[rdO,rdC,Obj.ren,dB,V.ren,aCv,LC.ren]
theorem oP{D:Nat→Prop}{M:Nat}(h:D M)(l:List Tz)(a d:Nat):Obj.In D (rdO M l a d):=⟨⟨aAa _,trivial⟩,trivial,trivial,h,trivial⟩
theorem lV{D:Nat→Prop}:Obj.In D pD:=⟨⟨trivial,trivial⟩,⟨trivial,trivial⟩,⟨trivial,trivial⟩,⟨trivial,trivial⟩,⟨trivial,trivial⟩,⟨trivial,trivial⟩,trivial⟩
theorem dU{D:Nat→Prop}(h:D 1001)(l:List Tz)(a d:Nat):gC D (rdL l a d):=⟨oP h l a d,lV,trivial⟩
theorem yC{h:H}{b:Nat}{o:Obj}(hb:h.ob b=some o):h.put b o=h:=by
 cases h with
 |mk nx ob lc=>
  simp only[H.put]
  congr 1
  funext k
  split
  ·rename_i e;rw[e];exact hb.symm
  ·rfl
theorem aKg{f:FuncId}{xs:List V}{l:List Tz}{a d a' d':Nat}{r:AEnd}(core:SCall Go.Proofs.Tryz.prog [] f (.ptr 1000 0::xs) none ⟨1002,og (rdL l a d),[]⟩ r none ⟨1002,og (rdL l a' d'),[]⟩)
  (has:Ins (fun _=>False) xs) (hr:r.In (fun _=>False)) {h:H} {R M:Nat} (hRM:R≠M) (hR:aC≤R) (hM:aC≤M) (h1:h.ob R=some (rdO M l a d)) (h2:h.ob M=some pD):
  SCall Go.Proofs.Tryz.prog [] f (.ptr R 0::xs) none h r none (h.put R (rdO M l a' d')):=by
 refine SCall.wT (n:=0) [R,M] rfl core (by simp[hRM]) (by simp[hR,hM]) (fun i=>?_) rfl (fun i c o hi ho=>?_) (dU (by show 1001<1002;decide) _ _ _) ⟨(by show 1000<1002;decide),Ins.mono (fun _ q=>q.elim) has⟩ hr (dU (by show 1001<1002;decide) _ _ _) ?_ rfl rfl (fun i hi=>?_) (fun c hc=>?_)
 ·simp only[rdL,aR]
  show _↔1000≤i∧i<1002
  split
  ·simp;omega
  ·split
   ·simp;omega
   ·simp[og];omega
 ·match i,hi with
  |0,hi=>
   cases hi;cases ho
   rw[aEh];exact h1
  |1,hi=>
   cases hi;cases ho
   exact h2
 ·show _::dB _ xs=_
  rw[fG (D:=fun _=>False) (fun _ q=>q.elim) has];rfl
 ·have hi:i<2:=hi
  match i,hi with
  |0,_=>
   show(h.put R _).ob R=_
   simp only[H.put,if_true]
   show some _=some (Obj.ren _ (rdO 1001 l a' d'))
   rw[aEh];rfl
  |1,_=>
   show(h.put R _).ob M=_
   simp only[H.put,if_neg hRM.symm]
   exact h2
 ·have h0:R≠c:=hc 0 (by show 0<2;decide)
  simp only[H.put]
  rw[if_neg (fun e=>h0 e.symm)]
theorem aCt{f:FuncId}{xs:List V}{l:List Tz}{a d:Nat}{r:AEnd}(core:SCall Go.Proofs.Tryz.prog [] f (.ptr 1000 0::xs) none ⟨1002,og (rdL l a d),[]⟩ r none ⟨1002,og (rdL l a d),[]⟩)
  (has:Ins (fun _=>False) xs) (hr:r.In (fun _=>False)) {h:H} {R M:Nat} (hRM:R≠M) (hR:aC≤R) (hM:aC≤M) (h1:h.ob R=some (rdO M l a d)) (h2:h.ob M=some pD):SCall Go.Proofs.Tryz.prog [] f (.ptr R 0::xs) none h r none h:=by
 have:=aKg core has hr hRM hR hM h1 h2
 rwa[yC h1]at this
theorem fP{l:List Tz}{a:Nat}{t:Tz}(h:l[a]? =some t):aA l a=t:=by simp only[aA,h]
theorem gJ{l:List Tz}{a:Nat}(h:l.length≤a):aA l a=⟨0,wG l,wG l,[]⟩:=by simp only[aA,List.getElem?_eq_none h]
theorem nK{l:List Tz}{t:Tz}(h:l[l.length-1]? =some t):wG l=t.e:=by simp only[wG,List.getLast?_eq_getElem?,h]
theorem pF{a:Nat}(h:1≤a)(hb:a<big):IntKind.i64.wrap ((a:Int)-1)=((a-1:Nat):Int):=bCn (b:=1) h hb
theorem aVi(l:List Tz)(a d:Nat)(hl:l.length<4294967296):SCall Go.Proofs.Tryz.prog [] 121 [.ptr 1000 0] none ⟨1002,og (rdL l a d),[]⟩ (.ret (.agg (cD (aA l a)))) none ⟨1002,og (rdL l a d),[]⟩:=by
 refine SCall.aI (fn:=Go.Proofs.Tryz.f121) (by kernel_rfl) bFv (by kernel_rfl) (by kernel_rfl) (Nat.le_refl _) rfl ((dU (by show 1001<1002;decide) _ _ _)) (by exact⟨trivial,trivial,trivial,trivial,trivial⟩) ?_
 unfold bDz
 unfold rdL rdO rdC
 repeat(first|refine WR.seq ?_|refine WR.block ?_|refine WR.scope ?_|refine WR.skip ?_|refine WR.exit ?_|refine WR.aD rfl ?_|refine WR.aO rfl ?_|refine WR.m 1000 rfl ?_|refine WQ.aJ ?_|refine WR.aP aZ (DW.m 1000 rfl ?_))
 refine DW.cC pQ ?_
 rw[List.length_map]
 by_cases h:a<l.length
 ·rw[show decide ((a:Int)<(l.length:Int))=true from decide_eq_true (by omega)]
  have hc:l[a]? =some l[a]:=List.getElem?_eq_getElem h
  rw[fP hc]
  generalize l[a]=t at hc⊢
  refine WR.aD rfl ?_
  refine WR.seq (WR.aP aZ (DW.m 8 rfl ?_))
  refine DW.oW rfl (fun h=>gL (cs:=cD t) rfl rfl (by rw[List.getElem?_map,hc];rfl) rfl) rfl (DW.m 1000 rfl ?_)
  refine DW.stS pQ rfl rfl rfl rfl (DW.m 1000 rfl (DW.cC pQ ?_))
  exact WR.e
 ·rw[show decide ((a:Int)<(l.length:Int))=false from decide_eq_false (by omega)]
  rw[gJ (by omega)]
  refine WR.k rfl ?_
  repeat(first|refine WR.seq ?_|refine WR.block ?_|refine WR.scope ?_|refine WR.skip ?_|refine WR.exit ?_|refine WR.aD rfl ?_|refine WR.aO rfl ?_|refine WR.m 1000 rfl ?_|refine WQ.aJ ?_|refine WR.aP aZ (DW.m 1000 rfl ?_))
  rw[List.length_map]
  rcases Nat.eq_zero_or_pos l.length with h0|h0
  ·have h0:l=[]:=List.eq_nil_of_length_eq_zero h0
   subst h0
   repeat(first|refine WR.seq ?_|refine WR.block ?_|refine WR.scope ?_|refine WR.skip ?_|refine WR.exit ?_|refine WR.aD rfl ?_|refine WR.aO rfl ?_|refine WR.m 1000 rfl ?_|refine WQ.aJ ?_|refine WR.aP aZ (DW.m 1000 rfl ?_))
   exact WR.e
  ·rw[show decide ((l.length:Int)>0)=true from decide_eq_true (by omega)]
   have hc:l[l.length-1]? =some l[l.length-1]:=List.getElem?_eq_getElem (by omega)
   rw[nK hc]
   generalize l[l.length-1]=t at hc⊢
   refine WR.aD rfl ?_
   refine WR.m 6 rfl ?_
   rw[pF (by omega) (by unfold big;omega)]
   refine WQ.bD rfl rfl rfl (gL (cs:=cD t) rfl rfl (by rw[List.getElem?_map,hc];rfl) rfl) rfl (WQ.q rfl ?_)
   unfold aGy
   repeat(first|refine WR.seq ?_|refine WR.block ?_|refine WR.scope ?_|refine WR.skip ?_|refine WR.exit ?_|refine WR.aD rfl ?_|refine WR.aO rfl ?_|refine WR.m 1000 rfl ?_|refine WQ.aJ ?_|refine WR.aP aZ (DW.m 1000 rfl ?_))
   exact WR.e
theorem rZ{l:List Tz}{a d:Nat}(hl:l.length<4294967296){h:H}{R M:Nat}(hRM:R≠M)(hR:aC≤R)(hM:aC≤M)(h1:h.ob R=some (rdO M l a d))(h2:h.ob M=some pD):
  SCall Go.Proofs.Tryz.prog [] 121 [.ptr R 0] none h (.ret (.agg (cD (aA l a)))) none h:=
 aCt (aVi l a d hl) trivial ⟨trivial,trivial,trivial,trivial,trivial⟩ hRM hR hM h1 h2
theorem bDb(l:List Tz)(a d:Nat)(hl:l.length<4294967296)(k:Int)(s:List Nat):SCall Go.Proofs.Tryz.prog [] 124 [.ptr 1000 0,.int .i64 k,.str s] none ⟨1002,og (rdL l a d),[]⟩ (.ret (.bool (isF l a k s))) none ⟨1002,og (rdL l a d),[]⟩:=by
 refine SCall.aI (fn:=Go.Proofs.Tryz.f124) (by kernel_rfl) bGo (by kernel_rfl) (by kernel_rfl) (Nat.le_refl _) rfl ((dU (by show 1001<1002;decide) _ _ _)) trivial ?_
 unfold bEa
 repeat(first|refine WR.seq ?_|refine WR.block ?_|refine WR.scope ?_|refine WR.skip ?_|refine WR.exit ?_|refine WR.aD rfl ?_|refine WR.aO rfl ?_|refine WR.m 1000 rfl ?_|refine WQ.aJ ?_|refine WR.aP aZ (DW.m 1000 rfl ?_))
 refine WQ.c rfl (rZ (l:=l) (a:=a) (d:=d) (M:=1001) hl (by decide) (by decide) (by decide) rfl rfl) .base rfl (WQ.q rfl ?_)
 unfold isF
 generalize aA l a=t
 repeat(first|refine WR.seq ?_|refine WR.block ?_|refine WR.scope ?_|refine WR.skip ?_|refine WR.exit ?_|refine WR.aD rfl ?_|refine WR.aO rfl ?_|refine WR.m 1000 rfl ?_|refine WQ.aJ ?_|refine WR.aP aZ (DW.m 1000 rfl ?_))
 refine WR.m 5 rfl ?_
 refine WQ.guard 14 rfl (fun e=>?_) (fun e=>?_)
 ·rw[e]
  refine WQ.q rfl ?_
  exact WR.e
 ·rw[e]
  refine WQ.q rfl ?_
  exact WR.e
theorem kC{l:List Tz}{a d:Nat}{k:Int}{s:List Nat}(hl:l.length<4294967296){h:H}{R M:Nat}(hRM:R≠M)(hR:aC≤R)(hM:aC≤M)(h1:h.ob R=some (rdO M l a d))(h2:h.ob M=some pD):
  SCall Go.Proofs.Tryz.prog [] 124 [.ptr R 0,.int .i64 k,.str s] none h (.ret (.bool (isF l a k s))) none h:=
 aCt (bDb l a d hl k s) ⟨trivial,trivial,trivial⟩ trivial hRM hR hM h1 h2
def cV(p c:Int):List PE:=[⟨.iface 28 (.agg [.int .i64 p,.int .i64 c]),false⟩]
theorem bA{D:Nat→Prop}{p c:Int}:AEnd.In D (.pan (cV p c)):=by
 intro e he
 rw[cV,List.mem_singleton]at he
 subst he
 exact⟨trivial,trivial,trivial⟩
theorem aTh(l:List Tz)(a d:Nat)(hl:l.length<4294967296)(c:Int):SCall Go.Proofs.Tryz.prog [] 116 [.ptr 1000 0,.int .i64 c] none ⟨1002,og (rdL l a d),[]⟩ (.pan (cV (aA l a).a c)) none ⟨1002,og (rdL l a d),[]⟩:=by
 refine SCall.aI (fn:=Go.Proofs.Tryz.f116) (by kernel_rfl) bGf (by kernel_rfl) (by kernel_rfl) (Nat.le_refl _) rfl ((dU (by show 1001<1002;decide) _ _ _)) bA ?_
 unfold bEu
 repeat(first|refine WR.seq ?_|refine WR.block ?_|refine WR.scope ?_|refine WR.skip ?_|refine WR.exit ?_|refine WR.aD rfl ?_|refine WR.aO rfl ?_|refine WR.m 1000 rfl ?_|refine WQ.aJ ?_|refine WR.aP aZ (DW.m 1000 rfl ?_))
 refine WQ.c rfl (rZ (l:=l) (a:=a) (d:=d) (M:=1001) hl (by decide) (by decide) (by decide) rfl rfl) .base rfl (WQ.m 1000 rfl ?_)
 refine WQ.aUd rfl rfl rfl ⟨rfl,rfl,rfl,fun _ _=>rfl⟩
theorem gZ{l:List Tz}{a d:Nat}{c:Int}(hl:l.length<4294967296){h:H}{R M:Nat}(hRM:R≠M)(hR:aC≤R)(hM:aC≤M)(h1:h.ob R=some (rdO M l a d))(h2:h.ob M=some pD):
  SCall Go.Proofs.Tryz.prog [] 116 [.ptr R 0,.int .i64 c] none h (.pan (cV (aA l a).a c)) none h:=
 aCt (aTh l a d hl c) ⟨trivial,trivial⟩ bA hRM hR hM h1 h2
end Go.VM
end
section
/- Expressions: what a reader's calls come to; must, within. -/
set_option maxRecDepth 100000
namespace Go.VM
open Go.RowKit
inductive R(α:Type) where
 |ok (v:α) (a:Nat)
 |er (a d:Nat) (p c:Int)
 |out
def R.pP{α:Type}(enc:α→V):R α→AEnd
 |.ok v _=>.ret (enc v)
 |.er _ _ p c=>.pan (cV p c)
 |.out=>.ret (.bool false)
def R.at'{α:Type}:R α→Nat
 |.ok _ a=>a
 |.er a _ _ _=>a
 |.out=>0
def R.dp{α:Type}(d0:Nat):R α→Nat
 |.ok _ _=>d0
 |.er _ d _ _=>d
 |.out=>0
def R.aY{α:Type}:R α→Bool
 |.out=>true
 |_=>false
def R.bind{α β:Type}(r:R α)(f:α→Nat→R β):R β:=
 match r with
 |.ok v a=>f v a
 |.er a d p c=>.er a d p c
 |.out=>.out
def fD{α:Type}(l:List Tz)(a d:Nat)(c:Int):R α:=.er a d (aA l a).a c
def Sp{α:Type}(f:FuncId)(xs:List V)(l:List Tz)(a d:Nat)(enc:α→V)(r:R α):Prop:=
 r.aY=false→SCall Go.Proofs.Tryz.prog [] f (.ptr 1000 0::xs) none ⟨1002,og (rdL l a d),[]⟩ (r.pP enc) none ⟨1002,og (rdL l r.at' (r.dp d)),[]⟩
theorem Sp.ok{α:Type}{f:FuncId}{xs:List V}{l:List Tz}{a d:Nat}{enc:α→V}{v:α}{a':Nat}(s:Sp f xs l a d enc (.ok v a'))(hx:Ins (fun _=>False) xs)(hv:(enc v).In (fun _=>False)){h:H}{R M:Nat}(hRM:R≠M)(hR:aC≤R)(hM:aC≤M)(h1:h.ob R=some (rdO M l a d))(h2:h.ob M=some pD):
  SCall Go.Proofs.Tryz.prog [] f (.ptr R 0::xs) none h (.ret (enc v)) none (h.put R (rdO M l a' d)):=aKg (r:=.ret (enc v)) (s rfl) hx hv hRM hR hM h1 h2
theorem Sp.er{α:Type}{f:FuncId}{xs:List V}{l:List Tz}{a d:Nat}{enc:α→V}{a' d':Nat}{p c:Int}(s:Sp f xs l a d enc (.er a' d' p c))(hx:Ins (fun _=>False) xs){h:H}{R M:Nat}(hRM:R≠M)(hR:aC≤R)(hM:aC≤M)(h1:h.ob R=some (rdO M l a d))(h2:h.ob M=some pD):
  SCall Go.Proofs.Tryz.prog [] f (.ptr R 0::xs) none h (.pan (cV p c)) none (h.put R (rdO M l a' d')):=aKg (r:=.pan (cV p c)) (s rfl) hx bA hRM hR hM h1 h2
theorem yF{l:List Tz}{a:Nat}{k:Int}{s:List Nat}(h:isF l a k s=true)(hk:k≠0):l[a]? =some (aA l a):=by
 simp only[isF,Bool.and_eq_true,decide_eq_true_eq]at h
 cases hc:l[a]? with
 |some t=>rw[fP hc]
 |none=>
  rw[aA,hc]at h
  exact absurd h.1.symm hk
def cH(l:List Tz)(a d:Nat)(s:List Nat):R Int:=match isF l a 4 s with|true=>.ok (aA l a).e (a+1)|false=>fD l a d 5
def bKy(n:Int):V:=.int .i64 n
theorem qS(l:List Tz)(a d:Nat)(hl:l.length<4294967296)(s:List Nat):Sp 130 [.str s] l a d bKy (cH l a d s):=by
 intro _
 unfold cH
 cases hi:isF l a 4 s with
 |false=>
  refine SCall.aI (fn:=Go.Proofs.Tryz.f130) (by kernel_rfl) aUe (by kernel_rfl) (by kernel_rfl) (Nat.le_refl _) rfl ((dU (by show 1001<1002;decide) _ _ _)) bA ?_
  unfold aTu
  refine WR.seq (WR.q rfl ?_)
  refine WR.seq (WR.seq (WR.m 2 rfl ?_))
  refine WQ.c rfl (kC (l:=l) (a:=a) (d:=d) (M:=1001) hl (by decide) (by decide) (by decide) rfl rfl) .base rfl (WQ.q rfl ?_)
  rw[hi]
  refine WR.aD rfl ?_
  refine WR.m 1 rfl ?_
  refine WQ.aL rfl rfl rfl rfl rfl (gZ (l:=l) (a:=a) (d:=d) (M:=1001) hl (by decide) (by decide) (by decide) rfl rfl) .base ⟨rfl,rfl,rfl,fun _ _=>rfl⟩
 |true=>
  refine SCall.aI (fn:=Go.Proofs.Tryz.f130) (by kernel_rfl) aUe (by kernel_rfl) (by kernel_rfl) (Nat.le_refl _) rfl ((dU (by show 1001<1002;decide) _ _ _)) trivial ?_
  unfold aTu
  refine WR.seq (WR.q rfl ?_)
  refine WR.seq (WR.seq (WR.m 2 rfl ?_))
  refine WQ.c rfl (kC (l:=l) (a:=a) (d:=d) (M:=1001) hl (by decide) (by decide) (by decide) rfl rfl) .base rfl (WQ.q rfl ?_)
  rw[hi]
  refine WR.k rfl ?_
  have hc:=yF hi (by decide)
  have hlt:=(List.getElem?_eq_some_iff.1 hc).1
  generalize aA l a=t at hc
  unfold aHm
  refine WR.seq (WR.m 5 rfl ?_)
  rw[bI (by unfold big;omega)]
  refine WQ.q rfl ?_
  refine WR.seq (WR.aP aZ (DW.m 9 rfl ?_))
  rw[pF (by omega) (by unfold big;omega),Nat.add_sub_cancel]
  refine DW.oW rfl (fun h=>gL (cs:=cD t) rfl rfl (by rw[List.getElem?_map,hc];rfl) rfl) rfl (DW.m 1000 rfl ?_)
  refine DW.cC pQ ?_
  exact WR.e
def aX{α:Type}(l:List Tz)(a d:Nat)(f:Nat→Nat→R α):R α:=if d=30 then fD l a d 6 else f (a+1) (d+1)
def sH(l:List Tz)(a d:Nat)(rest:OL):OL:=(1000,rdO 1001 l a d)::(1001,pD)::rest
theorem vX(l:List Tz)(a:Nat)(hl:l.length<4294967296)(nx:Nat)(hnx:1002≤nx)(rest:OL)(hB:olB nx rest=true)(hI:gC (· <nx) rest)(g:V):
  SCall Go.Proofs.Tryz.prog [] 125 [.ptr 1000 0,g] none ⟨nx,og (sH l a 30 rest),[]⟩ (.pan (cV (aA l a).a 6)) none ⟨nx,og (sH l a 30 rest),[]⟩:=by
 have e1:Nat.blt 1000 nx=true:=by rw[Nat.blt_eq];omega
 have e2:Nat.blt 1001 nx=true:=by rw[Nat.blt_eq];omega
 refine SCall.aI (fn:=Go.Proofs.Tryz.f125) (by kernel_rfl) aMj (by kernel_rfl) (by kernel_rfl) (Nat.le_refl _) (by simp only[sH,olB,e1,e2,hB];rfl) ⟨oP (by show 1001<nx;omega) _ _ _,lV,hI⟩ bA ?_
 unfold aPb
 refine WR.seq (WR.seq (WR.q rfl ?_))
 refine WR.aD rfl ?_
 refine WR.m 1 rfl ?_
 refine WQ.aL rfl rfl rfl rfl rfl (gZ (l:=l) (a:=a) (d:=30) (M:=1001) hl (by decide) (by decide) (by decide) rfl rfl) .base ⟨rfl,rfl,rfl,fun _ _=>rfl⟩
theorem aBo(l:List Tz)(a d:Nat)(hl:l.length<4294967296)(ha:a<l.length)(hd:d<30)(nx nx':Nat)(hnx:1002≤nx)(hnn:nx≤nx')(rest rest':OL)(hB:olB nx' rest'=true)(hI:gC (· <nx') rest')(f:FuncId)(caps:List V){a' d':Nat}{p c:Int}
  (sc:SCall Go.Proofs.Tryz.prog [] f caps none ⟨nx,og (sH l (a+1) (d+1) rest),[]⟩ (.pan (cV p c)) none ⟨nx',og (sH l a' d' rest'),[]⟩):
  SCall Go.Proofs.Tryz.prog [] 125 [.ptr 1000 0,.fn (.func f) [] caps] none ⟨nx,og (sH l a d rest),[]⟩ (.pan (cV p c)) none ⟨nx',og (sH l a' d' rest'),[]⟩:=by
 have e1:Nat.blt 1000 nx'=true:=by rw[Nat.blt_eq];omega
 have e2:Nat.blt 1001 nx'=true:=by rw[Nat.blt_eq];omega
 refine SCall.aI (fn:=Go.Proofs.Tryz.f125) (by kernel_rfl) aMj (by kernel_rfl) (by kernel_rfl) hnn (by simp only[sH,olB,e1,e2,hB];rfl) ⟨oP (by show 1001<nx';omega) _ _ _,lV,hI⟩ bA ?_
 unfold aPb
 refine WR.seq (WR.seq (WR.q rfl ?_))
 rw[show decide ((d:Int)=30)=false from decide_eq_false (by omega)]
 refine WR.k rfl ?_
 unfold yR
 refine WR.seq (WR.m 5 rfl ?_)
 rw[bI (by unfold big;omega)]
 refine WQ.q rfl ?_
 refine WR.seq (WR.m 5 rfl ?_)
 rw[bI (by unfold big;omega)]
 refine WQ.q rfl ?_
 refine WR.seq (WR.m 1 rfl ?_)
 exact WQ.aL rfl rfl rfl rfl rfl sc .base ⟨rfl,rfl,rfl,fun _ _=>rfl⟩
theorem aCl(l:List Tz)(a d:Nat)(hl:l.length<4294967296)(ha:a<l.length)(hd:d<30)(nx nx':Nat)(hnx:1002≤nx)(hnn:nx≤nx')(rest rest':OL)(hB:olB nx' rest'=true)(hI:gC (· <nx') rest')(f:FuncId)(caps:List V){a':Nat}
  (sc:SCall Go.Proofs.Tryz.prog [] f caps none ⟨nx,og (sH l (a+1) (d+1) rest),[]⟩ (.ret (.tup [])) none ⟨nx',og (sH l a' (d+1) rest'),[]⟩):
  SCall Go.Proofs.Tryz.prog [] 125 [.ptr 1000 0,.fn (.func f) [] caps] none ⟨nx,og (sH l a d rest),[]⟩ (.ret (.tup [])) none ⟨nx',og (sH l a' d rest'),[]⟩:=by
 have e1:Nat.blt 1000 nx'=true:=by rw[Nat.blt_eq];omega
 have e2:Nat.blt 1001 nx'=true:=by rw[Nat.blt_eq];omega
 refine SCall.aI (fn:=Go.Proofs.Tryz.f125) (by kernel_rfl) aMj (by kernel_rfl) (by kernel_rfl) hnn (by simp only[sH,olB,e1,e2,hB];rfl) ⟨oP (by show 1001<nx';omega) _ _ _,lV,hI⟩ trivial ?_
 unfold aPb
 refine WR.seq (WR.seq (WR.q rfl ?_))
 rw[show decide ((d:Int)=30)=false from decide_eq_false (by omega)]
 refine WR.k rfl ?_
 unfold yR
 refine WR.seq (WR.m 5 rfl ?_)
 rw[bI (by unfold big;omega)]
 refine WQ.q rfl ?_
 refine WR.seq (WR.m 5 rfl ?_)
 rw[bI (by unfold big;omega)]
 refine WQ.q rfl ?_
 refine WR.seq (WR.m 1 rfl ?_)
 refine WQ.c rfl sc .base rfl ?_
 refine WQ.q rfl ?_
 refine WR.m 5 rfl ?_
 rw[pF (by omega) (by unfold big;omega),Nat.add_sub_cancel]
 refine WQ.q rfl ?_
 exact⟨rfl,rfl,⟨_,rfl,VLe.refl _⟩,fun b _=>rfl⟩
end Go.VM
end
section
/- Expressions: numbers. -/
set_option maxRecDepth 100000
namespace Go.VM
open Go.RowKit
@[irreducible] def dstep(n c:Nat):Nat:=n*10+(c-48)
def aVg:Nat→List Nat→Nat
 |n,[]=>n
 |n,c::r=>aVg (dstep n c) r
theorem aVp(n c:Nat):dstep n c=n*10+(c-48):=by unfold dstep;exact rfl
theorem aRg(n c:Nat)(r:List Nat):aVg n (c::r)=aVg (dstep n c) r:=rfl
def aCr(s:List Nat):Nat:=aVg 0 s
def digits(s:List Nat):Bool:=s.all fun c=>Nat.ble 48 c&&Nat.ble c 57
theorem aAu{s:List Nat}{i c:Nat}(h:digits s=true)(hc:s[i]? =some c):48≤c∧c≤57:=by
 have:=List.all_eq_true.1 h c (List.mem_of_getElem? hc)
 simpa [Nat.ble_eq] using this
theorem bJk(n:Nat):IntKind.u8.wrap (n:Int)=((n%256:Nat):Int):=by
 simp[IntKind.wrap,IntKind.bits,IntKind.signed]
def bLe(s:List Nat)(n i:Nat):TM:=[(5,.v (.str s)),(6,.v (.int .i64 n)),(47,.v (.lst (s.map fun(n:Nat)=>[V.int .u8 n]) .unk)),(48,.v (.int .i64 s.length)),(49,.v (.int .i64 i))]
def pw(i:Nat):Nat:=10^i
theorem bAz(i:Nat):pw (i+1)=pw i*10:=Nat.pow_succ ..
theorem bLn{k:Nat}(h:k≤15):pw k≤1000000000000000:=by
 unfold pw
 have:10^k≤10^15:=Nat.pow_le_pow_right (by decide) h
 exact Nat.le_trans this (by decide)
theorem aPs{QN:S→Prop}{QX:X→S→Prop}(s:List Nat)(hd:digits s=true)(hl:s.length≤15)
  (h0:∀tm,TellT tm [] [(5,.v (.str s)),(6,.v (.int .i64 (aCr s)))]→QX (.exit 0) (SL.toS ⟨tm,[],none,1000,[],[]⟩)):∀(m i n:Nat),i+m=s.length→n<pw i→aVg n (s.drop i)=aCr s→
  WLr Go.Proofs.Tryz.prog [] ⟨Go.Proofs.Tryz.f136.ntmps,none,136⟩ tP (SL.toS ⟨bLe s n i,[],none,1000,[],[]⟩) QN QX:=by
 intro m
 induction m with
 |zero=>
  intro i n hi hn he
  rw[List.drop_eq_nil_iff.2 (by omega)]at he
  have he:n=aCr s:=he
  subst he
  unfold tP
  refine WLr.of ?_
  refine WR.seq (WR.m 1 rfl ?_)
  rw[show decide ((i:Int)<(s.length:Int))=false from decide_eq_false (by omega)]
  refine WQ.m 1000 rfl (WQ.aJ (WR.seq (WR.aO rfl (WR.exit (h0 _ ?_)))))
  exact tQ
 |succ m ih=>
  intro i n hi hn he
  obtain⟨c,hc,hdr⟩:∃c,s[i]? =some c∧s.drop i=c::s.drop (i+1):=⟨s[i],List.getElem?_eq_getElem (by omega),List.drop_eq_getElem_cons (by omega)⟩
  obtain⟨hc1,hc2⟩:=aAu hd hc
  rw[hdr,aRg]at he
  have hq:=aVp n c
  generalize dstep n c=q at he hq
  have hp:=bLn (k:=i+1) (by omega)
  have hn2:q<pw (i+1):=by rw[bAz];omega
  unfold tP
  refine WLr.of ?_
  refine WR.seq (WR.m 1 rfl ?_)
  rw[show decide ((i:Int)<(s.length:Int))=true from decide_eq_true (by omega)]
  refine WQ.m 1000 rfl (WQ.aJ (WR.seq (WR.aD rfl (WR.skip ?_))))
  refine WR.seq (WR.block (WR.seq (WR.reg ?_)))
  refine WQ.bD rfl rfl rfl (gL (cs:=[.int .u8 c]) rfl rfl (by rw[List.getElem?_map,hc];rfl) rfl) rfl ?_
  refine WQ.q rfl ?_
  refine WR.seq (WR.m 2 rfl ?_)
  rw[show IntKind.u8.wrap ((c:Int)-48)=((c-48:Nat):Int)from by rw[show((c:Int)-48)=((c-48:Nat):Int) by omega,bJk];congr 1;omega]
  refine WQ.q rfl ?_
  refine WR.seq (WR.seq (WR.m 2 rfl ?_))
  rw[show decide (((c-48:Nat):Int)>9)=false from decide_eq_false (by omega)]
  refine WQ.q rfl ?_
  refine WR.k rfl ?_
  refine WR.m 2 rfl ?_
  rw[show IntKind.i64.wrap ((n:Int)*10)=((n*10:Nat):Int)from by rw[wrap64 (by omega) (by omega)];simp]
  refine WQ.m 2 rfl ?_
  rw[show IntKind.i64.wrap (((c-48:Nat):Int))=((c-48:Nat):Int)from by rw[wrap64 (by omega) (by omega)]]
  refine WQ.m 1 rfl ?_
  rw[show IntKind.i64.wrap (((n*10:Nat):Int)+((c-48:Nat):Int))=(q:Int)from by rw[show(((n*10:Nat):Int)+((c-48:Nat):Int))=(q:Int)from by omega,wrap64 (by omega) (by omega)]]
  refine WQ.q rfl ?_
  unfold aGl
  refine WR.m 1 rfl ?_
  rw[bI (by unfold big;omega)]
  refine WQ.q rfl ?_
  refine WIr.again (WLr.weak ?_ (ih (i+1) q (by omega) hn2 he))
  refine SW.aM ?_ ?_
  ·exact tQ
  ·exact lQ
theorem bBh{s:List Nat}(hd:digits s=true)(h1:1≤s.length)(hl:s.length≤15)(h:H):SCall Go.Proofs.Tryz.prog [] 136 [.str s] none h (.ret (.tup [.int .i64 (aCr s),.fF])) none h:=by
 refine SCall.fL rfl ?_ (by exact⟨trivial,trivial⟩) (by exact⟨trivial,trivial,trivial⟩) h
 refine SCall.listed (fn:=Go.Proofs.Tryz.f136) (by kernel_rfl) bHk (by kernel_rfl) (by kernel_rfl) (Nat.le_refl _) rfl (trivial) (by exact⟨trivial,trivial,trivial⟩) ?_
 unfold bEt
 obtain⟨c,r,rfl⟩:∃c r,s=c::r:=by cases s with|nil=>simp at h1|cons c r=>exact⟨c,r,rfl⟩
 obtain⟨hc1,hc2⟩:=aAu (i:=0) hd rfl
 refine WR.seq (WR.q rfl ?_)
 refine WR.seq (WR.q rfl ?_)
 repeat apply sQ
 refine WR.m 12 rfl ?_
 rw[show decide ((0:Int)<((c::r).length:Int))=true from decide_eq_true (by omega)]
 refine WQ.m 3 rfl ?_
 rw[show decide (((c::r).length:Int)<19)=true from decide_eq_true (by omega)]
 refine WQ.q rfl ?_
 repeat apply sQ
 refine WR.aD rfl ?_
 repeat apply sQ
 refine WR.q rfl ?_
 repeat apply sQ
 refine WR.m 3 rfl ?_
 rw[show decide ((c:Int)=45)=false from decide_eq_false (by omega)]
 refine WQ.m 4 rfl ?_
 rw[show decide ((c:Int)=43)=false from decide_eq_false (by omega)]
 refine WQ.q rfl ?_
 repeat apply sQ
 refine WR.k rfl ?_
 unfold aGo
 repeat apply sQ
 refine WR.q rfl ?_
 repeat apply sQ
 refine WR.q rfl ?_
 rw[List.length_map]
 repeat apply sQ
 refine(WR.block (WR.loop (WLr.weak (s:=SL.toS ⟨bLe (c::r) 0 0,[],none,1000,[],[]⟩) ?_ (aPs (c::r) hd hl (fun tm ht=>?_) (c::r).length 0 0 (by omega) (by decide) rfl))))
 ·refine SW.aM ?_ ?_
  ·exact tQ
  ·exact lQ
 ·refine WR.weak (SW.aM ht .nil) ?_
  unfold aFw
  repeat apply sQ
  refine WR.m 3 rfl ?_
  rw[show decide ((c:Int)=45)=false from decide_eq_false (by omega)]
  refine WQ.q rfl ?_
  repeat apply sQ
  refine WR.k rfl ?_
  unfold aFs
  repeat(first|refine WR.seq ?_|refine WR.block ?_|refine WR.scope ?_|refine WR.skip ?_|refine WR.exit ?_|refine WR.aD rfl ?_|refine WR.aO rfl ?_|refine WR.m 1000 rfl ?_|refine WQ.aJ ?_|refine WR.aP aZ (DW.m 1000 rfl ?_))
  exact WR.e
theorem bAt{s:List Nat}(hd:digits s=true)(h1:1≤s.length)(hl:s.length≤15)(h:H):SCall Go.Proofs.Tryz.prog [] 135 [.str s] none h (.ret (.tup [.int .i64 (aCr s),.fF])) none h:=by
 refine SCall.fL rfl ?_ (by exact⟨trivial,trivial⟩) (by exact⟨trivial,trivial,trivial⟩) h
 refine SCall.listed (fn:=Go.Proofs.Tryz.f135) (by kernel_rfl) bGb (by kernel_rfl) (by kernel_rfl) (Nat.le_refl _) rfl (trivial) (by exact⟨trivial,trivial,trivial⟩) ?_
 unfold bEk
 refine WR.seq (WR.q rfl ?_)
 refine WR.seq (WR.m 1 rfl ?_)
 refine WQ.c rfl (bBh hd h1 hl _) .base rfl ?_
 refine WQ.q rfl ?_
 repeat(first|refine WR.seq ?_|refine WR.block ?_|refine WR.scope ?_|refine WR.skip ?_|refine WR.exit ?_|refine WR.aD rfl ?_|refine WR.aO rfl ?_|refine WR.m 1000 rfl ?_|refine WQ.aJ ?_|refine WR.aP aZ (DW.m 1000 rfl ?_))
 exact WR.e
end Go.VM
end
section
/- Expressions: the number of a token. -/
set_option maxRecDepth 100000
namespace Go.VM
open Go.RowKit
def wB(s:List Nat):Bool:=digits s&&(Nat.ble 1 s.length&&Nat.ble s.length 15)
def fV(l:List Tz)(s:List Nat)(a d:Nat):R Int:=match wB s with|true=>.ok (aCr s) a|false=>fD l a d 2
def bHv(s:List Nat)(i:Nat):TM:=[(0,.v (.ptr 1000 0)),(1,.v (.str s)),(10,.v (.lst (s.map fun(n:Nat)=>[V.int .u8 n]) .unk)),(11,.v (.int .i64 s.length)),(12,.v (.int .i64 i))]
theorem aGt{QN:S→Prop}{QX:X→S→Prop}(l:List Tz)(a d:Nat)(hl:l.length<4294967296)(s:List Nat)(hs:s.length<big)
  (h0:digits s=true→∀tm,TellT tm [] [(0,.v (.ptr 1000 0)),(1,.v (.str s))]→QX (.exit 0) (SL.toS ⟨tm,[],none,1002,rdL l a d,[]⟩))
  (h1:digits s=false→∀tm,QX (.panic (cV (aA l a).a 2)) (SL.toS ⟨tm,[],none,1002,rdL l a d,[]⟩)):∀(m i:Nat),i+m=s.length→digits s=digits (s.drop i)→
  WLr Go.Proofs.Tryz.prog [] ⟨Go.Proofs.Tryz.f131.ntmps,none,131⟩ tO (SL.toS ⟨bHv s i,[],none,1002,rdL l a d,[]⟩) QN QX:=by
 intro m
 induction m with
 |zero=>
  intro i hi he
  rw[List.drop_eq_nil_iff.2 (by omega)]at he
  have he:digits s=true:=he
  unfold tO
  refine WLr.of ?_
  repeat apply sQ
  refine WR.m 1 rfl ?_
  rw[show decide ((i:Int)<(s.length:Int))=false from decide_eq_false (by omega)]
  refine WQ.q rfl ?_
  repeat apply sQ
  refine WR.aO rfl (WR.exit (h0 he _ ?_))
  exact tQ
 |succ m ih=>
  intro i hi he
  obtain⟨c,hc,hdr⟩:∃c,s[i]? =some c∧s.drop i=c::s.drop (i+1):=⟨s[i],List.getElem?_eq_getElem (by omega),List.drop_eq_getElem_cons (by omega)⟩
  rw[hdr]at he
  have he:digits s=((Nat.ble 48 c&&Nat.ble c 57)&&digits (s.drop (i+1))):=he
  unfold tO
  refine WLr.of ?_
  repeat apply sQ
  refine WR.m 1 rfl ?_
  rw[show decide ((i:Int)<(s.length:Int))=true from decide_eq_true (by omega)]
  refine WQ.q rfl ?_
  repeat apply sQ
  refine WR.aD rfl (WR.skip ?_)
  repeat apply sQ
  refine WR.block ?_
  repeat apply sQ
  refine WR.reg ?_
  refine WQ.bD rfl rfl rfl (gL (cs:=[.int .u8 c]) rfl rfl (by rw[List.getElem?_map,hc];rfl) rfl) rfl ?_
  refine WQ.q rfl ?_
  repeat apply sQ
  refine WR.m 3 rfl ?_
  by_cases hc1:c<48
  ·rw[show decide ((c:Int)<48)=true from decide_eq_true (by omega)]
   refine WQ.q rfl ?_
   repeat apply sQ
   refine WR.aD rfl ?_
   have e:digits s=false:=by rw[he,show Nat.ble 48 c=false from by cases hq:Nat.ble 48 c with|false=>rfl|true=>exact absurd (Nat.le_of_ble_eq_true hq) (by omega)];rfl
   repeat apply sQ
   refine WR.m 1 rfl ?_
   refine WQ.aL rfl rfl rfl rfl rfl (gZ (l:=l) (a:=a) (d:=d) (M:=1001) hl (by decide) (by decide) (by decide) rfl rfl) .base (h1 e _)
  ·rw[show decide ((c:Int)<48)=false from decide_eq_false (by omega)]
   refine WQ.m 2 rfl ?_
   by_cases hc2:c>57
   ·rw[show decide ((c:Int)>57)=true from decide_eq_true (by omega)]
    refine WQ.q rfl ?_
    repeat apply sQ
    refine WR.aD rfl ?_
    have e:digits s=false:=by rw[he,show Nat.ble c 57=false from by cases hq:Nat.ble c 57 with|false=>rfl|true=>exact absurd (Nat.le_of_ble_eq_true hq) (by omega),Bool.and_false];rfl
    repeat apply sQ
    refine WR.m 1 rfl ?_
    refine WQ.aL rfl rfl rfl rfl rfl (gZ (l:=l) (a:=a) (d:=d) (M:=1001) hl (by decide) (by decide) (by decide) rfl rfl) .base (h1 e _)
   ·rw[show decide ((c:Int)>57)=false from decide_eq_false (by omega)]
    refine WQ.q rfl ?_
    repeat apply sQ
    refine WR.k rfl ?_
    have e:digits s=digits (s.drop (i+1)):=by rw[he,show Nat.ble 48 c=true from Nat.ble_eq.mpr (by omega),show Nat.ble c 57=true from Nat.ble_eq.mpr (by omega)];rfl
    unfold aIj
    repeat apply sQ
    refine WR.m 1 rfl ?_
    rw[bI (by omega)]
    refine WQ.q rfl ?_
    refine WIr.again (WLr.weak ?_ (ih (i+1) (by omega) e))
    refine SW.aM ?_ ?_
    ·exact tQ
    ·exact lQ
theorem aIv(l:List Tz)(a d:Nat)(hl:l.length<4294967296)(s:List Nat)(hs:s.length<big):Sp 131 [.str s] l a d bKy (fV l s a d):=by
 intro _
 unfold fV
 cases hi:wB s with
 |false=>
  refine SCall.aI (fn:=Go.Proofs.Tryz.f131) (by kernel_rfl) aYb (by kernel_rfl) (by kernel_rfl) (Nat.le_refl _) rfl ((dU (by show 1001<1002;decide) _ _ _)) bA ?_
  unfold aTw
  repeat apply sQ
  refine WR.q rfl ?_
  repeat apply sQ
  refine WR.q rfl ?_
  rw[List.length_map]
  repeat apply sQ
  refine WR.block (WR.loop (WLr.weak (s:=SL.toS ⟨bHv s 0,[],none,1002,rdL l a d,[]⟩) ?_ (aGt l a d hl s hs (fun hd tm ht=>?_) (fun _ tm=>⟨rfl,rfl,rfl,fun _ _=>rfl⟩) s.length 0 (by omega) rfl)))
  ·refine SW.aM ?_ ?_
   ·exact tQ
   ·exact lQ
  ·refine WR.weak (SW.aM ht .nil) ?_
   unfold wB at hi
   rw[hd,Bool.true_and]at hi
   unfold zM
   repeat apply sQ
   refine WR.m 4 rfl ?_
   by_cases h1:s.length<1
   ·rw[show decide ((s.length:Int)<1)=true from decide_eq_true (by omega)]
    refine WQ.q rfl ?_
    repeat apply sQ
    refine WR.aD rfl ?_
    repeat apply sQ
    refine WR.m 1 rfl ?_
    refine WQ.aL rfl rfl rfl rfl rfl (gZ (l:=l) (a:=a) (d:=d) (M:=1001) hl (by decide) (by decide) (by decide) rfl rfl) .base ⟨rfl,rfl,rfl,fun _ _=>rfl⟩
   ·rw[show decide ((s.length:Int)<1)=false from decide_eq_false (by omega)]
    refine WQ.m 3 rfl ?_
    have h2:s.length>15:=by
     rw[show Nat.ble 1 s.length=true from Nat.ble_eq.mpr (by omega),Bool.true_and]at hi
     rcases Nat.lt_or_ge 15 s.length with h|h
     ·exact h
     ·rw[Nat.ble_eq.mpr h]at hi;cases hi
    rw[show decide ((s.length:Int)>15)=true from decide_eq_true (by omega)]
    refine WQ.q rfl ?_
    repeat apply sQ
    refine WR.aD rfl ?_
    repeat apply sQ
    refine WR.m 1 rfl ?_
    refine WQ.aL rfl rfl rfl rfl rfl (gZ (l:=l) (a:=a) (d:=d) (M:=1001) hl (by decide) (by decide) (by decide) rfl rfl) .base ⟨rfl,rfl,rfl,fun _ _=>rfl⟩
 |true=>
  unfold wB at hi
  simp only[Bool.and_eq_true,Nat.ble_eq]at hi
  obtain⟨hd,h1,h2⟩:=hi
  refine SCall.aI (fn:=Go.Proofs.Tryz.f131) (by kernel_rfl) aYb (by kernel_rfl) (by kernel_rfl) (Nat.le_refl _) rfl ((dU (by show 1001<1002;decide) _ _ _)) trivial ?_
  unfold aTw
  repeat apply sQ
  refine WR.q rfl ?_
  repeat apply sQ
  refine WR.q rfl ?_
  rw[List.length_map]
  repeat apply sQ
  refine WR.block (WR.loop (WLr.weak (s:=SL.toS ⟨bHv s 0,[],none,1002,rdL l a d,[]⟩) ?_ (aGt l a d hl s hs (fun hd tm ht=>?_) (fun e=>by rw[hd]at e;cases e) s.length 0 (by omega) rfl)))
  ·refine SW.aM ?_ ?_
   ·exact tQ
   ·exact lQ
  ·refine WR.weak (SW.aM ht .nil) ?_
   unfold zM
   repeat apply sQ
   refine WR.m 4 rfl ?_
   rw[show decide ((s.length:Int)<1)=false from decide_eq_false (by omega)]
   refine WQ.m 3 rfl ?_
   rw[show decide ((s.length:Int)>15)=false from decide_eq_false (by omega)]
   refine WQ.q rfl ?_
   repeat apply sQ
   refine WR.k rfl ?_
   unfold aGm
   repeat apply sQ
   refine WR.m 1 rfl ?_
   refine WQ.c rfl (bAt hd h1 h2 _) .base rfl ?_
   refine WQ.q rfl ?_
   repeat(first|refine WR.seq ?_|refine WR.block ?_|refine WR.scope ?_|refine WR.skip ?_|refine WR.exit ?_|refine WR.aD rfl ?_|refine WR.aO rfl ?_|refine WR.m 1000 rfl ?_|refine WQ.aJ ?_|refine WR.aP aZ (DW.m 1000 rfl ?_))
   exact WR.e
end Go.VM
end
section
/- Expressions: types: tokens of types. -/
set_option maxRecDepth 100000
namespace Go.VM
open Go.RowKit
inductive Tx where
 |mk (k:Nat) (a:Int) (p n:List Nat) (l:List Tx)
mutual
def iG:Tx→List V
 |.mk k a p n l=>[.int .i64 k,.int .i64 a,.str p,.str n,.lst (aFa l) .unk]
def aFa:List Tx→List (List V)
 |[]=>[]
 |x::l=>iG x::aFa l
end
mutual
theorem kU{D:Nat→Prop}:∀x:Tx,Ins D (iG x)
 |.mk k a p n l=>⟨trivial,trivial,trivial,trivial,⟨gH l,trivial⟩,trivial⟩
theorem gH{D:Nat→Prop}:∀l:List Tx,Inss D (aFa l)
 |[]=>trivial
 |x::l=>⟨kU x,gH l⟩
end
def zTx:List V:=[.int .i64 0,.int .i64 0,.str [],.str [],.lst [] (.ex 0)]
def lsV(l:List Tz):V:=.lst (l.map cD) .unk
theorem rR{D:Nat→Prop}(l:List Tz):(lsV l).In D:=⟨aAa _,trivial⟩
theorem eZ(l:List Tz)(a:Nat)(hl:l.length<4294967296)(h:H):SCall Go.Proofs.Tryz.prog [] 98 [lsV l,.int .i64 a] none h (.ret (.agg (cD (aA l a)))) none h:=by
 refine SCall.fL rfl ?_ (by exact⟨rR l,trivial,trivial⟩) (by exact⟨trivial,trivial,trivial,trivial,trivial⟩) h
 refine SCall.listed (fn:=Go.Proofs.Tryz.f98) (by kernel_rfl) bJe (by kernel_rfl) (by kernel_rfl) (Nat.le_refl _) rfl (trivial) (by exact⟨trivial,trivial,trivial,trivial,trivial⟩) ?_
 unfold bIi
 unfold lsV
 repeat apply sQ
 refine WR.q rfl ?_
 repeat apply sQ
 refine WR.m 3 rfl ?_
 rw[show decide ((a:Int)≥0)=true from decide_eq_true (by omega)]
 refine WQ.m 4 rfl ?_
 rw[List.length_map]
 by_cases h:a<l.length
 ·rw[show decide ((a:Int)<(l.length:Int))=true from decide_eq_true (by omega)]
  have hc:l[a]? =some l[a]:=List.getElem?_eq_getElem h
  rw[fP hc]
  generalize l[a]=t at hc⊢
  refine WQ.q rfl ?_
  repeat apply sQ
  refine WR.aD rfl ?_
  repeat apply sQ
  refine WR.m 2 rfl ?_
  refine WQ.bD rfl rfl rfl (gL (cs:=cD t) rfl rfl (by rw[List.getElem?_map,hc];rfl) rfl) rfl ?_
  refine WQ.q rfl ?_
  exact WR.e
 ·rw[show decide ((a:Int)<(l.length:Int))=false from decide_eq_false (by omega)]
  rw[gJ (by omega)]
  refine WQ.q rfl ?_
  repeat apply sQ
  refine WR.k rfl ?_
  repeat apply sQ
  refine WR.q rfl ?_
  repeat apply sQ
  refine WR.q rfl ?_
  rw[List.length_map]
  repeat apply sQ
  refine WR.m 2 rfl ?_
  rcases Nat.eq_zero_or_pos l.length with h0|h0
  ·have h0:l=[]:=List.eq_nil_of_length_eq_zero h0
   subst h0
   refine WQ.q rfl ?_
   repeat apply sQ
   refine WR.k rfl ?_
   unfold aEs
   repeat(first|refine WR.seq ?_|refine WR.block ?_|refine WR.scope ?_|refine WR.skip ?_|refine WR.exit ?_|refine WR.aD rfl ?_|refine WR.aO rfl ?_|refine WR.m 1000 rfl ?_|refine WQ.aJ ?_|refine WR.aP aZ (DW.m 1000 rfl ?_))
   exact WR.e
  ·rw[show decide ((l.length:Int)>0)=true from decide_eq_true (by omega)]
   have hc:l[l.length-1]? =some l[l.length-1]:=List.getElem?_eq_getElem (by omega)
   rw[nK hc]
   generalize l[l.length-1]=t at hc⊢
   refine WQ.q rfl ?_
   repeat apply sQ
   refine WR.aD rfl ?_
   repeat apply sQ
   refine WR.m 3 rfl ?_
   rw[pF (by omega) (by unfold big;omega)]
   refine WQ.bD rfl rfl rfl (gL (cs:=cD t) rfl rfl (by rw[List.getElem?_map,hc];rfl) rfl) rfl (WQ.q rfl ?_)
   unfold aEs
   repeat(first|refine WR.seq ?_|refine WR.block ?_|refine WR.scope ?_|refine WR.skip ?_|refine WR.exit ?_|refine WR.aD rfl ?_|refine WR.aO rfl ?_|refine WR.m 1000 rfl ?_|refine WQ.aJ ?_|refine WR.aP aZ (DW.m 1000 rfl ?_))
   exact WR.e
def iS(t:Tz)(s:List Nat):Bool:=decide (t.k=4)&&decide (t.t=s)
theorem qK(l:List Tz)(a:Nat)(s:List Nat):isF l a 4 s=iS (aA l a) s:=rfl
theorem gD(t:Tz)(s:List Nat)(h:H):SCall Go.Proofs.Tryz.prog [] 99 [.agg (cD t),.str s] none h (.ret (.bool (iS t s))) none h:=by
 refine SCall.fL rfl ?_ (by exact⟨⟨trivial,trivial,trivial,trivial,trivial⟩,trivial,trivial⟩) (by exact trivial) h
 refine SCall.listed (fn:=Go.Proofs.Tryz.f99) (by kernel_rfl) bKt (by kernel_rfl) (by kernel_rfl) (Nat.le_refl _) rfl (trivial) trivial ?_
 unfold bMo
 unfold iS
 repeat apply sQ
 refine WR.q rfl ?_
 repeat apply sQ
 refine WR.m 4 rfl ?_
 refine WQ.guard 8 rfl (fun e=>?_) (fun e=>?_)<;>rw[e]
 ·refine WQ.q rfl ?_
  exact WR.e
 ·refine WQ.q rfl ?_
  exact WR.e
def tyV(r:R Tx):V:=match r with
 |.ok x n=>.tup [.agg (iG x),.int .i64 n,.agg [.int .i64 0,.int .i64 0]]
 |.er _ _ p c=>.tup [.agg zTx,.int .i64 0,.agg [.int .i64 p,.int .i64 c]]
 |.out=>.bool false
theorem fY(t:Tz)(c:Int)(h:H):SCall Go.Proofs.Tryz.prog [] 97 [.agg (cD t),.int .i64 c] none h (.ret (tyV (.er 0 0 t.a c))) none h:=by
 refine SCall.fL rfl ?_ (by exact⟨⟨trivial,trivial,trivial,trivial,trivial⟩,trivial,trivial⟩) (by exact⟨⟨trivial,trivial,trivial,trivial,⟨trivial,trivial⟩,trivial⟩,trivial,⟨trivial,trivial,trivial⟩,trivial⟩) h
 refine SCall.listed (fn:=Go.Proofs.Tryz.f97) (by kernel_rfl) bMr (by kernel_rfl) (by kernel_rfl) (Nat.le_refl _) rfl (trivial) (by exact⟨⟨trivial,trivial,trivial,trivial,⟨trivial,trivial⟩,trivial⟩,trivial,⟨trivial,trivial,trivial⟩,trivial⟩) ?_
 unfold bJj
 repeat(first|refine WR.seq ?_|refine WR.block ?_|refine WR.scope ?_|refine WR.skip ?_|refine WR.exit ?_|refine WR.aD rfl ?_|refine WR.aO rfl ?_|refine WR.m 1000 rfl ?_|refine WQ.aJ ?_|refine WR.aP aZ (DW.m 1000 rfl ?_))
 refine DW.stS pQ rfl rfl rfl rfl (DW.m 1000 rfl ?_)
 refine DW.stS pQ rfl rfl rfl rfl (DW.m 1000 rfl ?_)
 refine DW.cC pQ ?_
 exact WR.ret ⟨rfl,rfl,⟨_,rfl,vQ⟩,fun b hb=>rfl⟩
end Go.VM
end
section
/- Expressions: types: the brackets ahead of a type. -/
set_option maxRecDepth 100000
namespace Go.VM
open Go.RowKit
inductive OpenR where
 |brk (a:Nat) (ls:List Int)
 |er (p c:Int)
def bT(l:List Tz):Nat→Nat→List Int→OpenR
 |0,a,ls=>match iS (aA l a) [91]with
  |false=>.brk a ls
  |true=>.er (aA l a).a 6
 |m+1,a,ls=>match iS (aA l a) [91]with
  |false=>.brk a ls
  |true=>match iS (aA l (a+1)) [93]with
   |false=>.er (aA l (a+1)).a 5
   |true=>bT l m (a+2) (ls++[(aA l a).a])
def iY(p:Int):List V:=[.int .i64 p]
def lvI:List Int→V
 |[]=>.lst [] (.ex 0)
 |p::l=>.lst ((p::l).map iY) (.tk 1000)
def aGi:List Int→OL
 |[]=>[]
 |p::l=>[(1000,.tok (p::l).length)]
def nxI:List Int→Nat
 |[]=>1000
 |_::_=>1001
theorem zN(ls:List Int)(b:Nat)(h:b<1000):og [] b=og (aGi ls) b:=by
 cases ls with
 |nil=>rfl
 |cons p l=>simp only[aGi,aR];rw[if_neg (by omega)]
def bCp(l:List Tz)(a:Nat)(ls:List Int):TM:=[(0,.v (lsV l)),(1,.v (.int .i64 a)),(4,.l 4 0),(5,.v (.int .i64 0)),(6,.l 6 0),(7,.v (.fn (.func 97) [] [])),(8,.v (lvI ls))]
def aQe:LM:=[(4,zTx),(6,[.int .i64 0,.int .i64 0])]
theorem aRw{l:List Tz}{a:Nat}{s:List Nat}(h:iS (aA l a) s=true):l[a]? =some (aA l a):=yF (k:=4) (s:=s) h (by decide)
theorem nY{l:List Tz}{a:Nat}{s:List Nat}(h:iS (aA l a) s=true):a<l.length:=(List.getElem?_eq_some_iff.1 (aRw h)).1
theorem aRx{QN:S→Prop}{QX:X→S→Prop}(l:List Tz)(hl:l.length<4294967296):∀(m a:Nat) (ls:List Int),ls.length+m=30→a≤l.length→
  (∀a' ls',bT l m a ls=.brk a' ls'→ls'.length≤30→a'≤l.length→∀tm,TellT tm aQe (bCp l a' ls')→∀lc,TellL lc aQe→QX (.exit 0) (SL.toS ⟨tm,[],none,nxI ls',aGi ls',lc⟩))→
  (∀p c,bT l m a ls=.er p c→∀s,oB Go.Proofs.Tryz.prog Go.Proofs.Tryz.f88 (tyV (.er 0 0 p c)) 1000 [] s→QX .ret s)→
  WLr Go.Proofs.Tryz.prog [] ⟨Go.Proofs.Tryz.f88.ntmps,none,88⟩ tX (SL.toS ⟨bCp l a ls,[],none,nxI ls,aGi ls,aQe⟩) QN QX:=by
 intro m
 induction m with
 |zero=>
  intro a ls hm ha hb he
  obtain⟨q,r,rfl⟩:∃q r,ls=q::r:=by cases ls with|nil=>simp at hm|cons q r=>exact⟨q,r,rfl⟩
  unfold tX
  refine WLr.of (WR.block ?_)
  repeat apply sQ
  refine WR.m 2 rfl ?_
  refine WQ.c rfl (eZ l a hl _) .base rfl ?_
  refine WQ.q rfl ?_
  repeat apply sQ
  refine WR.block ?_
  repeat apply sQ
  refine WR.m 1 rfl ?_
  refine WQ.c rfl (gD (aA l a) [91] _) .base rfl ?_
  refine WQ.q rfl ?_
  cases hs:iS (aA l a) [91]with
  |false=>
   refine WR.aD rfl (WR.exit (hb a _ (by simp only[bT,hs]) (by omega) ha _ ?_ _ ?_))
   ·exact tQ
   ·exact lQ
  |true=>
   refine WR.aO rfl ?_
   repeat apply sQ
   refine WR.m 3 rfl ?_
   rw[List.length_map,show(q::r).length=30 from hm,show decide (((30:Nat):Int)=30)=true from rfl]
   refine WQ.q rfl ?_
   repeat apply sQ
   refine WR.aD rfl ?_
   repeat apply sQ
   refine WR.m 2 rfl ?_
   refine WQ.c rfl (fY (aA l a) 6 _) .base rfl ?_
   refine WQ.q rfl ?_
   exact WR.ret (he _ _ (by simp only[bT,hs]) _ ⟨rfl,rfl,⟨_,rfl,VLe.refl _⟩,fun b hb=>zN (q::r) b hb⟩)
 |succ m ih=>
  intro a ls hm ha hb he
  cases ls with
  |nil=>
   unfold tX
   refine WLr.of (WR.block ?_)
   repeat apply sQ
   refine WR.m 2 rfl ?_
   refine WQ.c rfl (eZ l a hl _) .base rfl ?_
   refine WQ.q rfl ?_
   repeat apply sQ
   refine WR.block ?_
   repeat apply sQ
   refine WR.m 1 rfl ?_
   refine WQ.c rfl (gD (aA l a) [91] _) .base rfl ?_
   refine WQ.q rfl ?_
   cases hs:iS (aA l a) [91]with
   |false=>
    refine WR.aD rfl (WR.exit (hb a _ (by simp only[bT,hs]) (by omega) ha _ ?_ _ ?_))
    ·exact tQ
    ·exact lQ
   |true=>
    refine WR.aO rfl ?_
    repeat apply sQ
    refine WR.q rfl ?_
    refine WR.aO rfl ?_
    have ha1:=nY hs
    repeat apply sQ
    refine WR.m 3 rfl ?_
    rw[bI (by unfold big;omega)]
    refine WQ.m 1 rfl ?_
    refine WQ.c rfl (eZ l (a+1) hl _) .base rfl ?_
    refine WQ.c rfl (gD (aA l (a+1)) [93] _) .base rfl ?_
    refine WQ.q rfl ?_
    cases hs2:iS (aA l (a+1)) [93]with
    |false=>
     refine WR.aD rfl ?_
     repeat apply sQ
     refine WR.m 4 rfl ?_
     rw[bI (by unfold big;omega)]
     refine WQ.m 1 rfl ?_
     refine WQ.c rfl (eZ l (a+1) hl _) .base rfl ?_
     refine WQ.c rfl (fY (aA l (a+1)) 5 _) .base rfl ?_
     refine WQ.q rfl ?_
     exact WR.ret (he _ _ (by simp only[bT,hs,hs2]) _ ⟨rfl,rfl,⟨_,rfl,VLe.refl _⟩,fun b hb=>zN [] b hb⟩)
    |true=>
     refine WR.k rfl ?_
     unfold aDt
     repeat apply sQ
     refine WR.m 4 rfl ?_
     refine WQ.dM rfl (iU (n2:=1) (es2:=[iY (aA l a).a]) rfl rfl (Nat.zero_lt_one) (by simp) (by simp) (by show 8*1≤lim;decide) rfl rfl rfl rfl) rfl ?_
     have ha2:=nY hs2
     refine WQ.q rfl ?_
     repeat apply sQ
     refine WR.m 2 rfl ?_
     rw[show IntKind.i64.wrap ((a:Int)+2)=((a+2:Nat):Int)from by rw[wrap64 (by omega) (by omega)];rfl]
     refine WQ.q rfl ?_
     simp only[bT,hs,hs2]at hb he
     refine WIr.again (WLr.weak ?_ (ih (a+2) [(aA l a).a] (by simp at hm⊢;omega) (by omega) hb he))
     refine SW.aM ?_ ?_
     ·exact tQ
     ·exact lQ
  |cons q r=>
   unfold tX
   refine WLr.of (WR.block ?_)
   repeat apply sQ
   refine WR.m 2 rfl ?_
   refine WQ.c rfl (eZ l a hl _) .base rfl ?_
   refine WQ.q rfl ?_
   repeat apply sQ
   refine WR.block ?_
   repeat apply sQ
   refine WR.m 1 rfl ?_
   refine WQ.c rfl (gD (aA l a) [91] _) .base rfl ?_
   refine WQ.q rfl ?_
   cases hs:iS (aA l a) [91]with
   |false=>
    refine WR.aD rfl (WR.exit (hb a _ (by simp only[bT,hs]) (by omega) ha _ ?_ _ ?_))
    ·exact tQ
    ·exact lQ
   |true=>
    refine WR.aO rfl ?_
    repeat apply sQ
    refine WR.m 3 rfl ?_
    rw[List.length_map,show decide (((q::r).length:Int)=30)=false from decide_eq_false (by omega)]
    refine WQ.q rfl ?_
    refine WR.aO rfl ?_
    have ha1:=nY hs
    repeat apply sQ
    refine WR.m 3 rfl ?_
    rw[bI (by unfold big;omega)]
    refine WQ.m 1 rfl ?_
    refine WQ.c rfl (eZ l (a+1) hl _) .base rfl ?_
    refine WQ.c rfl (gD (aA l (a+1)) [93] _) .base rfl ?_
    refine WQ.q rfl ?_
    cases hs2:iS (aA l (a+1)) [93]with
    |false=>
     refine WR.aD rfl ?_
     repeat apply sQ
     refine WR.m 4 rfl ?_
     rw[bI (by unfold big;omega)]
     refine WQ.m 1 rfl ?_
     refine WQ.c rfl (eZ l (a+1) hl _) .base rfl ?_
     refine WQ.c rfl (fY (aA l (a+1)) 5 _) .base rfl ?_
     refine WQ.q rfl ?_
     exact WR.ret (he _ _ (by simp only[bT,hs,hs2]) _ ⟨rfl,rfl,⟨_,rfl,VLe.refl _⟩,fun b hb=>zN (q::r) b hb⟩)
    |true=>
     refine WR.k rfl ?_
     unfold aDt
     repeat apply sQ
     refine WR.m 4 rfl ?_
     refine WQ.dM rfl (jD (n:=(q::r).length) (n2:=(q::r++[(aA l a).a]).length) (es2:=(q::r++[(aA l a).a]).map iY) rfl rfl rfl (List.length_map ..).symm ?_ ?_ ?_ rfl ?_ ?_ rfl) rfl ?_
     ·simp[iY]
     ·simp[iY]
     ·simp only[List.length_map,List.length_cons,List.length_nil]at hm⊢;unfold lim;omega
     ·simp[iY,V.bV]
     ·simp
     have ha2:=nY hs2
     refine WQ.q rfl ?_
     repeat apply sQ
     refine WR.m 2 rfl ?_
     rw[show IntKind.i64.wrap ((a:Int)+2)=((a+2:Nat):Int)from by rw[wrap64 (by omega) (by omega)];rfl]
     refine WQ.q rfl ?_
     simp only[bT,hs,hs2]at hb he
     refine WIr.again (WLr.weak ?_ (ih (a+2) (q::r++[(aA l a).a]) (by simp at hm⊢;omega) (by omega) hb he))
     refine SW.aM ?_ ?_
     ·exact tQ
     ·exact lQ
end Go.VM
end
section
/- Expressions: types: the type itself. -/
set_option maxRecDepth 100000
namespace Go.VM
open Go.RowKit
def uE(s:List Nat):Option Nat:=match decide (s=[105,110,116])with
 |true=>some 1
 |false=>match decide (s=[98,111,111,108])with
  |true=>some 2
  |false=>match decide (s=[116,101,120,116])with
   |true=>some 3
   |false=>none
def cY(l:List Tz)(a:Nat):R Tx:=
 match decide ((aA l a).k=5)&&(uE (aA l a).t).isSome with
 |true=>.ok (.mk ((uE (aA l a).t).getD 0) (aA l a).a [] [] []) a
 |false=>match decide ((aA l a).k=1)with
  |true=>match iS (aA l (a+1)) [46]with
   |true=>match decide ((aA l (a+2)).k=1)with
    |true=>.ok (.mk 4 (aA l a).a (aA l a).t (aA l (a+2)).t []) (a+2)
    |false=>.er 0 0 (aA l (a+2)).a 5
   |false=>.ok (.mk 4 (aA l a).a [] (aA l a).t []) a
  |false=>.er 0 0 (aA l a).a 5
def hU:List Int→Tx→Tx
 |[],x=>x
 |p::ls,x=>.mk 5 p [] [] [hU ls x]
def tyF(l:List Tz)(a:Nat):R Tx:=match bT l 30 a []with
 |.er p c=>.er 0 0 p c
 |.brk a' ls=>match cY l a' with
  |.ok x a2=>.ok (hU ls x) (a2+1)
  |.er _ _ p c=>.er 0 0 p c
  |.out=>.out
def xM:List (V×V):=[(.str [105,110,116],.int .i64 1),(.str [98,111,111,108],.int .i64 2),(.str [116,101,120,116],.int .i64 3)]
theorem bJu{gl:List Nat}{nt nx M:Nat}{tm:TM}{ol:OL}{lc:LM}{x k:RX}{s:List Nat}(hx:rv gl tm x=some (.map M))(hk:rv gl tm k=some (.str s))(hm:og ol M=some (.map xM)):
  cG Go.Proofs.Tryz.prog gl nt tm ⟨nx,og ol,lc⟩ (some (.lk x k true (.int .i64 0) .str)) (.v (.tup [.int .i64 ((uE s).getD 0),.bool (uE s).isSome])):=by
 refine bJ ?_
 simp only[eM,rl,hx,hk,hm]
 unfold uE
 show(match(match jE (.str s) (.str [105,110,116])with|some true=>some (some (V.int .i64 1))|some false=>(match jE (.str s) (.str [98,111,111,108])with|some true=>some (some (V.int .i64 2))|some false=>(match jE (.str s) (.str [116,101,120,116])with|some true=>some (some (V.int .i64 3))|some false=>some none|none=>none)|none=>none)|none=>none)with|some (some v)=>some (TV.v (pL true v true))|some none=>some (TV.v (pL true (.int .i64 0) false))|none=>none)=_
 rw[show jE (.str s) (.str [105,110,116])=some (decide (s=[105,110,116]))from rfl,show jE (.str s) (.str [98,111,111,108])=some (decide (s=[98,111,111,108]))from rfl,show jE (.str s) (.str [116,101,120,116])=some (decide (s=[116,101,120,116]))from rfl]
 cases decide (s=[105,110,116])
 ·cases decide (s=[98,111,111,108])
  ·cases decide (s=[116,101,120,116])<;>rfl
  ·rfl
 ·rfl
def bGq(l:List Tz)(a:Nat)(ls:List Int)(i:Int):TM:=[(0,.v (lsV l)),(1,.v (.int .i64 a)),(4,.l 4 0),(5,.v (.int .i64 0)),(6,.l 6 0),(8,.v (lvI ls)),(11,.l 11 0),(15,.v (.int .i64 i))]
def aTn(x:Tx):LM:=[(4,zTx),(6,[.int .i64 0,.int .i64 0]),(11,iG x)]
theorem bLs{k:Nat}(h:k<100):IntKind.i64.wrap ((k:Int)-1)=(k:Int)-1:=wrap64 (by omega) (by omega)
theorem aZe{ls:List Int}{i:Nat}{p:Int}(h:ls[i]? =some p):∃c,lvI ls=.lst (ls.map iY) c:=by
 cases ls with
 |nil=>cases h
 |cons q r=>exact⟨_,rfl⟩
theorem aQl{QN:S→Prop}{QX:X→S→Prop}(l:List Tz)(a:Nat)(ls:List Int)(nx:Nat)(ol:OL)(hls:ls.length≤30)(y:Tx)
  (h0:∀tm,TellT tm (aTn y) [(1,.v (.int .i64 a)),(4,.l 4 0),(6,.l 6 0),(11,.l 11 0)]→∀lc,TellL lc (aTn y)→QX (.exit 4) (SL.toS ⟨tm,[],none,nx,ol,lc⟩)):∀(k:Nat) (x:Tx),k≤ls.length→hU (ls.take k) x=y→
  WLr Go.Proofs.Tryz.prog [] ⟨Go.Proofs.Tryz.f88.ntmps,none,88⟩ xB (SL.toS ⟨bGq l a ls ((k:Int)-1),[],none,nx,ol,aTn x⟩) QN QX:=by
 intro k
 induction k with
 |zero=>
  intro x _ hx
  have hx:x=y:=hx
  subst hx
  unfold xB
  refine WLr.of ?_
  repeat apply sQ
  refine WR.m 2 rfl ?_
  rw[show decide ((((0:Nat):Int)-1)≥0)=false from rfl]
  refine WQ.q rfl ?_
  repeat apply sQ
  refine WR.aO rfl (WR.exit (h0 _ ?_ _ ?_))
  ·exact tQ
  ·exact lQ
 |succ k ih=>
  intro x hk hx
  obtain⟨p,hp⟩:∃p,ls[k]? =some p:=⟨ls[k],List.getElem?_eq_getElem (by omega)⟩
  have hx:hU (ls.take k) (.mk 5 p [] [] [x])=y:=by
   rw[List.take_add_one,hp]at hx
   rw[←hx]
   have go:∀m:List Int,hU (m++[p]) x=hU m (.mk 5 p [] [] [x]):=by
    intro m
    induction m with
    |nil=>rfl
    |cons q m ihm=>simp only[List.cons_append,hU,ihm]
   exact(go _).symm
  obtain⟨c,hc⟩:=aZe hp
  obtain⟨xk,xa,xp,xn,xl⟩:=x
  unfold xB
  refine WLr.of ?_
  rw[show((k+1:Nat):Int)-1=(k:Int) by omega]
  repeat apply sQ
  refine WR.m 2 rfl ?_
  rw[show decide ((k:Int)≥0)=true from decide_eq_true (by omega)]
  refine WQ.q rfl ?_
  repeat apply sQ
  refine WR.aD rfl (WR.skip ?_)
  repeat apply sQ
  refine WR.block (WR.aP aZ (DW.m 2 rfl ?_))
  refine DW.oW rfl (fun h=>gL (cs:=iY p) (congrArg some hc) rfl (by rw[List.getElem?_map,hp];rfl) rfl) rfl (DW.m 1000 rfl ?_)
  refine DW.stS pQ rfl rfl rfl rfl (DW.m 1000 rfl (DW.cC pQ ?_))
  unfold aOq
  repeat apply sQ
  refine WR.m 2 rfl ?_
  rw[bLs (by omega)]
  refine WQ.q rfl ?_
  refine WIr.again (WLr.weak ?_ (ih (.mk 5 p [] [] [.mk xk xa xp xn xl]) (by omega) hx))
  refine SW.aM ?_ ?_
  ·exact tQ
  ·refine .cons rfl (.inl rfl) (.cons rfl (.inl rfl) (.cons rfl (.inr ?_) .nil))
   exact cQ
theorem gT{QN:S→Prop}{QX:X→S→Prop}(l:List Tz)(a:Nat)(ha:a<4294967300)(ls:List Int)(nx:Nat)(ol:OL)(hls:ls.length≤30)(x:Tx)(hol:∀b,b<1000→og [] b=og ol b){tm:TM}{lc:LM}
  (ht:TellT tm (aTn x) [(0,.v (lsV l)),(1,.v (.int .i64 a)),(4,.l 4 0),(5,.v (.int .i64 0)),(6,.l 6 0),(8,.v (lvI ls)),(11,.l 11 0)]) (hlc:TellL lc (aTn x))
  (hq:∀s,oB Go.Proofs.Tryz.prog Go.Proofs.Tryz.f88 (tyV (.ok (hU ls x) (a+1))) 1000 [] s→QX .ret s):
  WR Go.Proofs.Tryz.prog [] ⟨Go.Proofs.Tryz.f88.ntmps,none,88⟩ aEi (SL.toS ⟨tm,[],none,nx,ol,lc⟩) QN QX:=by
 refine WR.weak (SW.aM ht hlc) ?_
 unfold aEi
 have hlen:∃c,lvI ls=.lst (ls.map iY) c:=by
  cases ls with
  |nil=>exact⟨_,rfl⟩
  |cons q r=>exact⟨_,rfl⟩
 obtain⟨c,hc⟩:=hlen
 rw[hc]
 repeat apply sQ
 refine WR.m 2 rfl ?_
 rw[List.length_map]
 refine WQ.m 1 rfl ?_
 rw[bLs (by omega)]
 refine WQ.q rfl ?_
 repeat apply sQ
 refine WR.block (WR.loop (WLr.weak (s:=SL.toS ⟨bGq l a ls ((ls.length:Int)-1),[],none,nx,ol,aTn x⟩) ?_ (aQl l a ls nx ol hls (hU ls x) (fun tm ht lc hlc=>?_) ls.length x (Nat.le_refl _) (by rw[List.take_length]))))
 ·refine SW.aM ?_ ?_
  ·unfold bGq
   rw[hc]
   exact tQ
  ·exact lQ
 ·generalize hU ls x=y at ht hlc hq
  obtain⟨xk,xa,xp,xn,xl⟩:=y
  refine WR.weak (SW.aM ht hlc) ?_
  unfold aOu
  repeat apply sQ
  refine WR.m 3 rfl ?_
  rw[bI (by unfold big;omega)]
  refine WQ.q rfl ?_
  refine WR.ret (hq _ ⟨rfl,rfl,⟨_,rfl,vQ⟩,hol⟩)
end Go.VM
end
