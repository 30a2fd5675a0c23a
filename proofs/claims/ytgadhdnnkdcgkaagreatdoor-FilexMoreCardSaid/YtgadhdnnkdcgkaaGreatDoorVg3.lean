/- laid for this seat: VxA VxB VxC VxD VxE VxF VxG -/
import Derived.Test.YtgadhdnnkdcgkaaGreatDoorVmS
import Derived.Test.YtgadhdnnkdcgkaaGreatDoorVmR
import Derived.Test.YtgadhdnnkdcgkaaGreatDoorVg1
set_option linter.unusedVariables false
set_option linter.unusedSimpArgs false
section
/- Expressions: tokens, the reader in memory, the token at hand. -/
set_option maxRecDepth 100000
namespace Go.VM
open Go.RowKit
structure Tz where
 k:Int
 a:Int
 e:Int
 t:List Nat
def dA(t:Tz):List V:=[.int .i64 t.k,.int .i64 t.a,.int .i64 t.e,.str t.t]
def xX(l:List Tz):Int:=match l.getLast? with|some t=>t.e|none=>0
def aB(l:List Tz)(a:Nat):Tz:=match l[a]? with|some t=>t|none=>⟨0,xX l,xX l,[]⟩
def isF(l:List Tz)(a:Nat)(k:Int)(s:List Nat):Bool:=decide ((aB l a).k=k)&&decide ((aB l a).t=s)
theorem xY{D:Nat→Prop}:∀l:List Tz,Inss D (l.map dA)
 |[]=>trivial
 |_::l=>⟨⟨trivial,trivial,trivial,trivial,trivial⟩,xY l⟩
theorem aCv(ρ:Nat→Nat)(l:List Tz):nA ρ (l.map dA)=l.map dA:=aCr fun _ _=>rfl
def bHk:List (V×V):=[(.str [38,38],.int .i64 1),(.str [61,61],.int .i64 2),(.str [60],.int .i64 2),(.str [43],.int .i64 3),(.str [45],.int .i64 3),(.str [42],.int .i64 4)]
def rdC(M:Nat)(l:List Tz)(a d:Nat):List V:=[.lst (l.map dA) .unk,.int .i64 a,.int .i64 d,.map M]
def rdO(M:Nat)(l:List Tz)(a d:Nat):Obj:=.cells false (rdC M l a d)
def pD:Obj:=.map bHk
def rdL(l:List Tz)(a d:Nat):OL:=[(1000,rdO 1001 l a d),(1001,pD)]
theorem aDw(ρ:Nat→Nat)(l:List Tz)(a d:Nat):Obj.ren ρ (rdO 1001 l a d)=rdO (ρ 1001) l a d:=by
 simp only[rdO,rdC,Obj.ren,dI,V.ren,aCv,LC.ren]
theorem oZ{D:Nat→Prop}{M:Nat}(h:D M)(l:List Tz)(a d:Nat):Obj.In D (rdO M l a d):=⟨⟨xY _,trivial⟩,trivial,trivial,h,trivial⟩
theorem lR{D:Nat→Prop}:Obj.In D pD:=⟨⟨trivial,trivial⟩,⟨trivial,trivial⟩,⟨trivial,trivial⟩,⟨trivial,trivial⟩,⟨trivial,trivial⟩,⟨trivial,trivial⟩,trivial⟩
theorem dW{D:Nat→Prop}(h:D 1001)(l:List Tz)(a d:Nat):gP D (rdL l a d):=⟨oZ h l a d,lR,trivial⟩
theorem aAn{h:H}{b:Nat}{o:Obj}(hb:h.ob b=some o):h.put b o=h:=by
 cases h with
 |mk nx ob lc=>
  simp only[H.put]
  congr 1
  funext k
  split
  ·rename_i e;rw[e];exact hb.symm
  ·rfl
theorem aKf{f:FuncId}{xs:List V}{l:List Tz}{a d a' d':Nat}{r:AEnd}(core:SCall Go.Proofs.Tryz.prog [] f (.ptr 1000 0::xs) none ⟨1002,og (rdL l a d),[]⟩ r none ⟨1002,og (rdL l a' d'),[]⟩)
  (has:Ins (fun _=>False) xs) (hr:r.In (fun _=>False)) {h:H} {R M:Nat} (hRM:R≠M) (hR:aC≤R) (hM:aC≤M) (h1:h.ob R=some (rdO M l a d)) (h2:h.ob M=some pD):
  SCall Go.Proofs.Tryz.prog [] f (.ptr R 0::xs) none h r none (h.put R (rdO M l a' d')):=by
 refine SCall.xI (n:=0) [R,M] rfl core (by simp[hRM]) (by simp[hR,hM]) (fun i=>?_) rfl (fun i c o hi ho=>?_) (dW (by show 1001<1002;decide) _ _ _) ⟨(by show 1000<1002;decide),Ins.mono (fun _ q=>q.elim) has⟩ hr (dW (by show 1001<1002;decide) _ _ _) ?_ rfl rfl (fun i hi=>?_) (fun c hc=>?_)
 ·simp only[rdL,aT]
  show _↔1000≤i∧i<1002
  split
  ·simp;omega
  ·split
   ·simp;omega
   ·simp[og];omega
 ·match i,hi with
  |0,hi=>
   cases hi;cases ho
   rw[aDw];exact h1
  |1,hi=>
   cases hi;cases ho
   exact h2
 ·show _::dI _ xs=_
  rw[gJ (D:=fun _=>False) (fun _ q=>q.elim) has];rfl
 ·have hi:i<2:=hi
  match i,hi with
  |0,_=>
   show(h.put R _).ob R=_
   simp only[H.put,if_true]
   show some _=some (Obj.ren _ (rdO 1001 l a' d'))
   rw[aDw];rfl
  |1,_=>
   show(h.put R _).ob M=_
   simp only[H.put,if_neg hRM.symm]
   exact h2
 ·have h0:R≠c:=hc 0 (by show 0<2;decide)
  simp only[H.put]
  rw[if_neg (fun e=>h0 e.symm)]
theorem aDt{f:FuncId}{xs:List V}{l:List Tz}{a d:Nat}{r:AEnd}(core:SCall Go.Proofs.Tryz.prog [] f (.ptr 1000 0::xs) none ⟨1002,og (rdL l a d),[]⟩ r none ⟨1002,og (rdL l a d),[]⟩)
  (has:Ins (fun _=>False) xs) (hr:r.In (fun _=>False)) {h:H} {R M:Nat} (hRM:R≠M) (hR:aC≤R) (hM:aC≤M) (h1:h.ob R=some (rdO M l a d)) (h2:h.ob M=some pD):SCall Go.Proofs.Tryz.prog [] f (.ptr R 0::xs) none h r none h:=by
 have:=aKf core has hr hRM hR hM h1 h2
 rwa[aAn h1]at this
theorem fU{l:List Tz}{a:Nat}{t:Tz}(h:l[a]? =some t):aB l a=t:=by simp only[aB,h]
theorem kK{l:List Tz}{a:Nat}(h:l.length≤a):aB l a=⟨0,xX l,xX l,[]⟩:=by simp only[aB,List.getElem?_eq_none h]
theorem pK{l:List Tz}{t:Tz}(h:l[l.length-1]? =some t):xX l=t.e:=by simp only[xX,List.getLast?_eq_getElem?,h]
theorem rB{a:Nat}(h:1≤a)(hb:a<big):IntKind.i64.wrap ((a:Int)-1)=((a-1:Nat):Int):=bCh (b:=1) h hb
theorem aUx(l:List Tz)(a d:Nat)(hl:l.length<4294967296):SCall Go.Proofs.Tryz.prog [] 121 [.ptr 1000 0] none ⟨1002,og (rdL l a d),[]⟩ (.ret (.agg (dA (aB l a)))) none ⟨1002,og (rdL l a d),[]⟩:=by
 refine SCall.aJ (fn:=Go.Proofs.Tryz.f121) (by kernel_rfl) bHe (by kernel_rfl) (by kernel_rfl) (Nat.le_refl _) rfl ((dW (by show 1001<1002;decide) _ _ _)) (by exact⟨trivial,trivial,trivial,trivial,trivial⟩) ?_
 unfold bEd
 unfold rdL rdO rdC
 repeat(first|refine WR.seq ?_|refine WR.block ?_|refine WR.scope ?_|refine WR.skip ?_|refine WR.exit ?_|refine WR.aD rfl ?_|refine WR.aO rfl ?_|refine WR.m 1000 rfl ?_|refine WQ.aK ?_|refine WR.aN aZ (DW.m 1000 rfl ?_))
 refine DW.bS pQ ?_
 rw[List.length_map]
 by_cases h:a<l.length
 ·rw[show decide ((a:Int)<(l.length:Int))=true from decide_eq_true (by omega)]
  have hc:l[a]? =some l[a]:=List.getElem?_eq_getElem h
  rw[fU hc]
  generalize l[a]=t at hc⊢
  refine WR.aD rfl ?_
  refine WR.seq (WR.aN aZ (DW.m 8 rfl ?_))
  refine DW.cX rfl (fun h=>bT (cs:=dA t) rfl rfl (by rw[List.getElem?_map,hc];rfl) rfl) rfl (DW.m 1000 rfl ?_)
  refine DW.stS pQ rfl rfl rfl rfl (DW.m 1000 rfl (DW.bS pQ ?_))
  exact WR.e
 ·rw[show decide ((a:Int)<(l.length:Int))=false from decide_eq_false (by omega)]
  rw[kK (by omega)]
  refine WR.k rfl ?_
  repeat(first|refine WR.seq ?_|refine WR.block ?_|refine WR.scope ?_|refine WR.skip ?_|refine WR.exit ?_|refine WR.aD rfl ?_|refine WR.aO rfl ?_|refine WR.m 1000 rfl ?_|refine WQ.aK ?_|refine WR.aN aZ (DW.m 1000 rfl ?_))
  rw[List.length_map]
  rcases Nat.eq_zero_or_pos l.length with h0|h0
  ·have h0:l=[]:=List.eq_nil_of_length_eq_zero h0
   subst h0
   repeat(first|refine WR.seq ?_|refine WR.block ?_|refine WR.scope ?_|refine WR.skip ?_|refine WR.exit ?_|refine WR.aD rfl ?_|refine WR.aO rfl ?_|refine WR.m 1000 rfl ?_|refine WQ.aK ?_|refine WR.aN aZ (DW.m 1000 rfl ?_))
   exact WR.e
  ·rw[show decide ((l.length:Int)>0)=true from decide_eq_true (by omega)]
   have hc:l[l.length-1]? =some l[l.length-1]:=List.getElem?_eq_getElem (by omega)
   rw[pK hc]
   generalize l[l.length-1]=t at hc⊢
   refine WR.aD rfl ?_
   refine WR.m 6 rfl ?_
   rw[rB (by omega) (by unfold big;omega)]
   refine WQ.cE rfl rfl rfl (bT (cs:=dA t) rfl rfl (by rw[List.getElem?_map,hc];rfl) rfl) rfl (WQ.q rfl ?_)
   unfold aFz
   repeat(first|refine WR.seq ?_|refine WR.block ?_|refine WR.scope ?_|refine WR.skip ?_|refine WR.exit ?_|refine WR.aD rfl ?_|refine WR.aO rfl ?_|refine WR.m 1000 rfl ?_|refine WQ.aK ?_|refine WR.aN aZ (DW.m 1000 rfl ?_))
   exact WR.e
theorem rZ{l:List Tz}{a d:Nat}(hl:l.length<4294967296){h:H}{R M:Nat}(hRM:R≠M)(hR:aC≤R)(hM:aC≤M)(h1:h.ob R=some (rdO M l a d))(h2:h.ob M=some pD):
  SCall Go.Proofs.Tryz.prog [] 121 [.ptr R 0] none h (.ret (.agg (dA (aB l a)))) none h:=
 aDt (aUx l a d hl) trivial ⟨trivial,trivial,trivial,trivial,trivial⟩ hRM hR hM h1 h2
theorem bAz(l:List Tz)(a d:Nat)(hl:l.length<4294967296)(k:Int)(s:List Nat):SCall Go.Proofs.Tryz.prog [] 124 [.ptr 1000 0,.int .i64 k,.str s] none ⟨1002,og (rdL l a d),[]⟩ (.ret (.bool (isF l a k s))) none ⟨1002,og (rdL l a d),[]⟩:=by
 refine SCall.aJ (fn:=Go.Proofs.Tryz.f124) (by kernel_rfl) bGd (by kernel_rfl) (by kernel_rfl) (Nat.le_refl _) rfl ((dW (by show 1001<1002;decide) _ _ _)) trivial ?_
 unfold bDz
 repeat(first|refine WR.seq ?_|refine WR.block ?_|refine WR.scope ?_|refine WR.skip ?_|refine WR.exit ?_|refine WR.aD rfl ?_|refine WR.aO rfl ?_|refine WR.m 1000 rfl ?_|refine WQ.aK ?_|refine WR.aN aZ (DW.m 1000 rfl ?_))
 refine WQ.c rfl (rZ (l:=l) (a:=a) (d:=d) (M:=1001) hl (by decide) (by decide) (by decide) rfl rfl) .base rfl (WQ.q rfl ?_)
 unfold isF
 generalize aB l a=t
 repeat(first|refine WR.seq ?_|refine WR.block ?_|refine WR.scope ?_|refine WR.skip ?_|refine WR.exit ?_|refine WR.aD rfl ?_|refine WR.aO rfl ?_|refine WR.m 1000 rfl ?_|refine WQ.aK ?_|refine WR.aN aZ (DW.m 1000 rfl ?_))
 refine WR.m 5 rfl ?_
 refine WQ.guard 14 rfl (fun e=>?_) (fun e=>?_)
 ·rw[e]
  refine WQ.q rfl ?_
  exact WR.e
 ·rw[e]
  refine WQ.q rfl ?_
  exact WR.e
theorem kC{l:List Tz}{a d:Nat}{k:Int}{s:List Nat}(hl:l.length<4294967296){h:H}{R M:Nat}(hRM:R≠M)(hR:aC≤R)(hM:aC≤M)(h1:h.ob R=some (rdO M l a d))(h2:h.ob M=some pD):
  SCall Go.Proofs.Tryz.prog [] 124 [.ptr R 0,.int .i64 k,.str s] none h (.ret (.bool (isF l a k s))) none h:=
 aDt (bAz l a d hl k s) ⟨trivial,trivial,trivial⟩ trivial hRM hR hM h1 h2
def dB(p c:Int):List PE:=[⟨.iface 28 (.agg [.int .i64 p,.int .i64 c]),false⟩]
theorem bB{D:Nat→Prop}{p c:Int}:AEnd.In D (.pan (dB p c)):=by
 intro e he
 rw[dB,List.mem_singleton]at he
 subst he
 exact⟨trivial,trivial,trivial⟩
theorem aSp(l:List Tz)(a d:Nat)(hl:l.length<4294967296)(c:Int):SCall Go.Proofs.Tryz.prog [] 116 [.ptr 1000 0,.int .i64 c] none ⟨1002,og (rdL l a d),[]⟩ (.pan (dB (aB l a).a c)) none ⟨1002,og (rdL l a d),[]⟩:=by
 refine SCall.aJ (fn:=Go.Proofs.Tryz.f116) (by kernel_rfl) bGv (by kernel_rfl) (by kernel_rfl) (Nat.le_refl _) rfl ((dW (by show 1001<1002;decide) _ _ _)) bB ?_
 unfold bFa
 repeat(first|refine WR.seq ?_|refine WR.block ?_|refine WR.scope ?_|refine WR.skip ?_|refine WR.exit ?_|refine WR.aD rfl ?_|refine WR.aO rfl ?_|refine WR.m 1000 rfl ?_|refine WQ.aK ?_|refine WR.aN aZ (DW.m 1000 rfl ?_))
 refine WQ.c rfl (rZ (l:=l) (a:=a) (d:=d) (M:=1001) hl (by decide) (by decide) (by decide) rfl rfl) .base rfl (WQ.m 1000 rfl ?_)
 refine WQ.aXn rfl rfl rfl ⟨rfl,rfl,rfl,fun _ _=>rfl⟩
theorem hY{l:List Tz}{a d:Nat}{c:Int}(hl:l.length<4294967296){h:H}{R M:Nat}(hRM:R≠M)(hR:aC≤R)(hM:aC≤M)(h1:h.ob R=some (rdO M l a d))(h2:h.ob M=some pD):
  SCall Go.Proofs.Tryz.prog [] 116 [.ptr R 0,.int .i64 c] none h (.pan (dB (aB l a).a c)) none h:=
 aDt (aSp l a d hl c) ⟨trivial,trivial⟩ bB hRM hR hM h1 h2
end Go.VM
end
section
/- Expressions: what a reader's calls come to; must, within. -/
set_option maxRecDepth 100000
namespace Go.VM
open Go.RowKit
inductive R(α:Type) where
 |ok (v:α) (a:Nat)
 |er (a d:Nat) (p c:Int)
 |out
def R.pL{α:Type}(enc:α→V):R α→AEnd
 |.ok v _=>.ret (enc v)
 |.er _ _ p c=>.pan (dB p c)
 |.out=>.ret (.bool false)
def R.at'{α:Type}:R α→Nat
 |.ok _ a=>a
 |.er a _ _ _=>a
 |.out=>0
def R.dp{α:Type}(d0:Nat):R α→Nat
 |.ok _ _=>d0
 |.er _ d _ _=>d
 |.out=>0
def R.bA{α:Type}:R α→Bool
 |.out=>true
 |_=>false
def R.bind{α β:Type}(r:R α)(f:α→Nat→R β):R β:=
 match r with
 |.ok v a=>f v a
 |.er a d p c=>.er a d p c
 |.out=>.out
def fZ{α:Type}(l:List Tz)(a d:Nat)(c:Int):R α:=.er a d (aB l a).a c
def Sp{α:Type}(f:FuncId)(xs:List V)(l:List Tz)(a d:Nat)(enc:α→V)(r:R α):Prop:=
 r.bA=false→SCall Go.Proofs.Tryz.prog [] f (.ptr 1000 0::xs) none ⟨1002,og (rdL l a d),[]⟩ (r.pL enc) none ⟨1002,og (rdL l r.at' (r.dp d)),[]⟩
theorem Sp.ok{α:Type}{f:FuncId}{xs:List V}{l:List Tz}{a d:Nat}{enc:α→V}{v:α}{a':Nat}(s:Sp f xs l a d enc (.ok v a'))(hx:Ins (fun _=>False) xs)(hv:(enc v).In (fun _=>False)){h:H}{R M:Nat}(hRM:R≠M)(hR:aC≤R)(hM:aC≤M)(h1:h.ob R=some (rdO M l a d))(h2:h.ob M=some pD):
  SCall Go.Proofs.Tryz.prog [] f (.ptr R 0::xs) none h (.ret (enc v)) none (h.put R (rdO M l a' d)):=aKf (r:=.ret (enc v)) (s rfl) hx hv hRM hR hM h1 h2
theorem Sp.er{α:Type}{f:FuncId}{xs:List V}{l:List Tz}{a d:Nat}{enc:α→V}{a' d':Nat}{p c:Int}(s:Sp f xs l a d enc (.er a' d' p c))(hx:Ins (fun _=>False) xs){h:H}{R M:Nat}(hRM:R≠M)(hR:aC≤R)(hM:aC≤M)(h1:h.ob R=some (rdO M l a d))(h2:h.ob M=some pD):
  SCall Go.Proofs.Tryz.prog [] f (.ptr R 0::xs) none h (.pan (dB p c)) none (h.put R (rdO M l a' d')):=aKf (r:=.pan (dB p c)) (s rfl) hx bB hRM hR hM h1 h2
theorem yH{l:List Tz}{a:Nat}{k:Int}{s:List Nat}(h:isF l a k s=true)(hk:k≠0):l[a]? =some (aB l a):=by
 simp only[isF,Bool.and_eq_true,decide_eq_true_eq]at h
 cases hc:l[a]? with
 |some t=>rw[fU hc]
 |none=>
  rw[aB,hc]at h
  exact absurd h.1.symm hk
def cN(l:List Tz)(a d:Nat)(s:List Nat):R Int:=match isF l a 4 s with|true=>.ok (aB l a).e (a+1)|false=>fZ l a d 5
def bJf(n:Int):V:=.int .i64 n
theorem qP(l:List Tz)(a d:Nat)(hl:l.length<4294967296)(s:List Nat):Sp 130 [.str s] l a d bJf (cN l a d s):=by
 intro _
 unfold cN
 cases hi:isF l a 4 s with
 |false=>
  refine SCall.aJ (fn:=Go.Proofs.Tryz.f130) (by kernel_rfl) aWs (by kernel_rfl) (by kernel_rfl) (Nat.le_refl _) rfl ((dW (by show 1001<1002;decide) _ _ _)) bB ?_
  unfold aWj
  refine WR.seq (WR.q rfl ?_)
  refine WR.seq (WR.seq (WR.m 2 rfl ?_))
  refine WQ.c rfl (kC (l:=l) (a:=a) (d:=d) (M:=1001) hl (by decide) (by decide) (by decide) rfl rfl) .base rfl (WQ.q rfl ?_)
  rw[hi]
  refine WR.aD rfl ?_
  refine WR.m 1 rfl ?_
  refine WQ.aL rfl rfl rfl rfl rfl (hY (l:=l) (a:=a) (d:=d) (M:=1001) hl (by decide) (by decide) (by decide) rfl rfl) .base ⟨rfl,rfl,rfl,fun _ _=>rfl⟩
 |true=>
  refine SCall.aJ (fn:=Go.Proofs.Tryz.f130) (by kernel_rfl) aWs (by kernel_rfl) (by kernel_rfl) (Nat.le_refl _) rfl ((dW (by show 1001<1002;decide) _ _ _)) trivial ?_
  unfold aWj
  refine WR.seq (WR.q rfl ?_)
  refine WR.seq (WR.seq (WR.m 2 rfl ?_))
  refine WQ.c rfl (kC (l:=l) (a:=a) (d:=d) (M:=1001) hl (by decide) (by decide) (by decide) rfl rfl) .base rfl (WQ.q rfl ?_)
  rw[hi]
  refine WR.k rfl ?_
  have hc:=yH hi (by decide)
  have hlt:=(List.getElem?_eq_some_iff.1 hc).1
  generalize aB l a=t at hc
  unfold aHx
  refine WR.seq (WR.m 5 rfl ?_)
  rw[bJ (by unfold big;omega)]
  refine WQ.q rfl ?_
  refine WR.seq (WR.aN aZ (DW.m 9 rfl ?_))
  rw[rB (by omega) (by unfold big;omega),Nat.add_sub_cancel]
  refine DW.cX rfl (fun h=>bT (cs:=dA t) rfl rfl (by rw[List.getElem?_map,hc];rfl) rfl) rfl (DW.m 1000 rfl ?_)
  refine DW.bS pQ ?_
  exact WR.e
def bC{α:Type}(l:List Tz)(a d:Nat)(f:Nat→Nat→R α):R α:=if d=30 then fZ l a d 6 else f (a+1) (d+1)
def rJ(l:List Tz)(a d:Nat)(rest:OL):OL:=(1000,rdO 1001 l a d)::(1001,pD)::rest
theorem wH(l:List Tz)(a:Nat)(hl:l.length<4294967296)(nx:Nat)(hnx:1002≤nx)(rest:OL)(hB:olB nx rest=true)(hI:gP (· <nx) rest)(g:V):
  SCall Go.Proofs.Tryz.prog [] 125 [.ptr 1000 0,g] none ⟨nx,og (rJ l a 30 rest),[]⟩ (.pan (dB (aB l a).a 6)) none ⟨nx,og (rJ l a 30 rest),[]⟩:=by
 have e1:Nat.blt 1000 nx=true:=by rw[Nat.blt_eq];omega
 have e2:Nat.blt 1001 nx=true:=by rw[Nat.blt_eq];omega
 refine SCall.aJ (fn:=Go.Proofs.Tryz.f125) (by kernel_rfl) aKy (by kernel_rfl) (by kernel_rfl) (Nat.le_refl _) (by simp only[rJ,olB,e1,e2,hB];rfl) ⟨oZ (by show 1001<nx;omega) _ _ _,lR,hI⟩ bB ?_
 unfold aMv
 refine WR.seq (WR.seq (WR.q rfl ?_))
 refine WR.aD rfl ?_
 refine WR.m 1 rfl ?_
 refine WQ.aL rfl rfl rfl rfl rfl (hY (l:=l) (a:=a) (d:=30) (M:=1001) hl (by decide) (by decide) (by decide) rfl rfl) .base ⟨rfl,rfl,rfl,fun _ _=>rfl⟩
theorem aBs(l:List Tz)(a d:Nat)(hl:l.length<4294967296)(ha:a<l.length)(hd:d<30)(nx nx':Nat)(hnx:1002≤nx)(hnn:nx≤nx')(rest rest':OL)(hB:olB nx' rest'=true)(hI:gP (· <nx') rest')(f:FuncId)(caps:List V){a' d':Nat}{p c:Int}
  (sc:SCall Go.Proofs.Tryz.prog [] f caps none ⟨nx,og (rJ l (a+1) (d+1) rest),[]⟩ (.pan (dB p c)) none ⟨nx',og (rJ l a' d' rest'),[]⟩):
  SCall Go.Proofs.Tryz.prog [] 125 [.ptr 1000 0,.fn (.func f) [] caps] none ⟨nx,og (rJ l a d rest),[]⟩ (.pan (dB p c)) none ⟨nx',og (rJ l a' d' rest'),[]⟩:=by
 have e1:Nat.blt 1000 nx'=true:=by rw[Nat.blt_eq];omega
 have e2:Nat.blt 1001 nx'=true:=by rw[Nat.blt_eq];omega
 refine SCall.aJ (fn:=Go.Proofs.Tryz.f125) (by kernel_rfl) aKy (by kernel_rfl) (by kernel_rfl) hnn (by simp only[rJ,olB,e1,e2,hB];rfl) ⟨oZ (by show 1001<nx';omega) _ _ _,lR,hI⟩ bB ?_
 unfold aMv
 refine WR.seq (WR.seq (WR.q rfl ?_))
 rw[show decide ((d:Int)=30)=false from decide_eq_false (by omega)]
 refine WR.k rfl ?_
 unfold zO
 refine WR.seq (WR.m 5 rfl ?_)
 rw[bJ (by unfold big;omega)]
 refine WQ.q rfl ?_
 refine WR.seq (WR.m 5 rfl ?_)
 rw[bJ (by unfold big;omega)]
 refine WQ.q rfl ?_
 refine WR.seq (WR.m 1 rfl ?_)
 exact WQ.aL rfl rfl rfl rfl rfl sc .base ⟨rfl,rfl,rfl,fun _ _=>rfl⟩
theorem aBc(l:List Tz)(a d:Nat)(hl:l.length<4294967296)(ha:a<l.length)(hd:d<30)(nx nx':Nat)(hnx:1002≤nx)(hnn:nx≤nx')(rest rest':OL)(hB:olB nx' rest'=true)(hI:gP (· <nx') rest')(f:FuncId)(caps:List V){a':Nat}
  (sc:SCall Go.Proofs.Tryz.prog [] f caps none ⟨nx,og (rJ l (a+1) (d+1) rest),[]⟩ (.ret (.tup [])) none ⟨nx',og (rJ l a' (d+1) rest'),[]⟩):
  SCall Go.Proofs.Tryz.prog [] 125 [.ptr 1000 0,.fn (.func f) [] caps] none ⟨nx,og (rJ l a d rest),[]⟩ (.ret (.tup [])) none ⟨nx',og (rJ l a' d rest'),[]⟩:=by
 have e1:Nat.blt 1000 nx'=true:=by rw[Nat.blt_eq];omega
 have e2:Nat.blt 1001 nx'=true:=by rw[Nat.blt_eq];omega
 refine SCall.aJ (fn:=Go.Proofs.Tryz.f125) (by kernel_rfl) aKy (by kernel_rfl) (by kernel_rfl) hnn (by simp only[rJ,olB,e1,e2,hB];rfl) ⟨oZ (by show 1001<nx';omega) _ _ _,lR,hI⟩ trivial ?_
 unfold aMv
 refine WR.seq (WR.seq (WR.q rfl ?_))
 rw[show decide ((d:Int)=30)=false from decide_eq_false (by omega)]
 refine WR.k rfl ?_
 unfold zO
 refine WR.seq (WR.m 5 rfl ?_)
 rw[bJ (by unfold big;omega)]
 refine WQ.q rfl ?_
 refine WR.seq (WR.m 5 rfl ?_)
 rw[bJ (by unfold big;omega)]
 refine WQ.q rfl ?_
 refine WR.seq (WR.m 1 rfl ?_)
 refine WQ.c rfl sc .base rfl ?_
 refine WQ.q rfl ?_
 refine WR.m 5 rfl ?_
 rw[rB (by omega) (by unfold big;omega),Nat.add_sub_cancel]
 refine WQ.q rfl ?_
 exact⟨rfl,rfl,⟨_,rfl,VLe.refl _⟩,fun b _=>rfl⟩
end Go.VM
end
section
/- Expressions: numbers. -/
set_option maxRecDepth 100000
namespace Go.VM
open Go.RowKit
@[irreducible] def dstep(n c:Nat):Nat:=n*10+(c-48)
def aVb:Nat→List Nat→Nat
 |n,[]=>n
 |n,c::r=>aVb (dstep n c) r
theorem aZe(n c:Nat):dstep n c=n*10+(c-48):=by unfold dstep;exact rfl
theorem aQe(n c:Nat)(r:List Nat):aVb n (c::r)=aVb (dstep n c) r:=rfl
def aDd(s:List Nat):Nat:=aVb 0 s
def digits(s:List Nat):Bool:=s.all fun c=>Nat.ble 48 c&&Nat.ble c 57
theorem aBw{s:List Nat}{i c:Nat}(h:digits s=true)(hc:s[i]? =some c):48≤c∧c≤57:=by
 have:=List.all_eq_true.1 h c (List.mem_of_getElem? hc)
 simpa [Nat.ble_eq] using this
theorem bKk(n:Nat):IntKind.u8.wrap (n:Int)=((n%256:Nat):Int):=by
 simp[IntKind.wrap,IntKind.bits,IntKind.signed]
def bLe(s:List Nat)(n i:Nat):TM:=[(5,.v (.str s)),(6,.v (.int .i64 n)),(47,.v (.lst (s.map fun(n:Nat)=>[V.int .u8 n]) .unk)),(48,.v (.int .i64 s.length)),(49,.v (.int .i64 i))]
def pw(i:Nat):Nat:=10^i
theorem bDe(i:Nat):pw (i+1)=pw i*10:=Nat.pow_succ ..
theorem bJx{k:Nat}(h:k≤15):pw k≤1000000000000000:=by
 unfold pw
 have:10^k≤10^15:=Nat.pow_le_pow_right (by decide) h
 exact Nat.le_trans this (by decide)
theorem aPz{QN:S→Prop}{QX:X→S→Prop}(s:List Nat)(hd:digits s=true)(hl:s.length≤15)
  (h0:∀tm,TellT tm [] [(5,.v (.str s)),(6,.v (.int .i64 (aDd s)))]→QX (.exit 0) (SL.toS ⟨tm,[],none,1000,[],[]⟩)):∀(m i n:Nat),i+m=s.length→n<pw i→aVb n (s.drop i)=aDd s→
  WLr Go.Proofs.Tryz.prog [] ⟨Go.Proofs.Tryz.f136.ntmps,none,136⟩ sU (SL.toS ⟨bLe s n i,[],none,1000,[],[]⟩) QN QX:=by
 intro m
 induction m with
 |zero=>
  intro i n hi hn he
  rw[List.drop_eq_nil_iff.2 (by omega)]at he
  have he:n=aDd s:=he
  subst he
  unfold sU
  refine WLr.of ?_
  refine WR.seq (WR.m 1 rfl ?_)
  rw[show decide ((i:Int)<(s.length:Int))=false from decide_eq_false (by omega)]
  refine WQ.m 1000 rfl (WQ.aK (WR.seq (WR.aO rfl (WR.exit (h0 _ ?_)))))
  exact tQ
 |succ m ih=>
  intro i n hi hn he
  obtain⟨c,hc,hdr⟩:∃c,s[i]? =some c∧s.drop i=c::s.drop (i+1):=⟨s[i],List.getElem?_eq_getElem (by omega),List.drop_eq_getElem_cons (by omega)⟩
  obtain⟨hc1,hc2⟩:=aBw hd hc
  rw[hdr,aQe]at he
  have hq:=aZe n c
  generalize dstep n c=q at he hq
  have hp:=bJx (k:=i+1) (by omega)
  have hn2:q<pw (i+1):=by rw[bDe];omega
  unfold sU
  refine WLr.of ?_
  refine WR.seq (WR.m 1 rfl ?_)
  rw[show decide ((i:Int)<(s.length:Int))=true from decide_eq_true (by omega)]
  refine WQ.m 1000 rfl (WQ.aK (WR.seq (WR.aD rfl (WR.skip ?_))))
  refine WR.seq (WR.block (WR.seq (WR.reg ?_)))
  refine WQ.cE rfl rfl rfl (bT (cs:=[.int .u8 c]) rfl rfl (by rw[List.getElem?_map,hc];rfl) rfl) rfl ?_
  refine WQ.q rfl ?_
  refine WR.seq (WR.m 2 rfl ?_)
  rw[show IntKind.u8.wrap ((c:Int)-48)=((c-48:Nat):Int)from by rw[show((c:Int)-48)=((c-48:Nat):Int) by omega,bKk];congr 1;omega]
  refine WQ.q rfl ?_
  refine WR.seq (WR.seq (WR.m 2 rfl ?_))
  rw[show decide (((c-48:Nat):Int)>9)=false from decide_eq_false (by omega)]
  refine WQ.q rfl ?_
  refine WR.k rfl ?_
  refine WR.m 2 rfl ?_
  rw[show IntKind.i64.wrap ((n:Int)*10)=((n*10:Nat):Int)from by rw[wrap64 (by omega) (by omega)];simp]
  refine WQ.m 2 rfl ?_
  rw[show IntKind.i64.wrap (((c-48:Nat):Int))=((c-48:Nat):Int)from by rw[wrap64 (by omega) (by omega)]]
  refine WQ.m 1 rfl ?_
  rw[show IntKind.i64.wrap (((n*10:Nat):Int)+((c-48:Nat):Int))=(q:Int)from by rw[show(((n*10:Nat):Int)+((c-48:Nat):Int))=(q:Int)from by omega,wrap64 (by omega) (by omega)]]
  refine WQ.q rfl ?_
  unfold aGh
  refine WR.m 1 rfl ?_
  rw[bJ (by unfold big;omega)]
  refine WQ.q rfl ?_
  refine WIr.again (WLr.weak ?_ (ih (i+1) q (by omega) hn2 he))
  refine SW.aQ ?_ ?_
  ·exact tQ
  ·exact lQ
theorem bBq{s:List Nat}(hd:digits s=true)(h1:1≤s.length)(hl:s.length≤15)(h:H):SCall Go.Proofs.Tryz.prog [] 136 [.str s] none h (.ret (.tup [.int .i64 (aDd s),.fN])) none h:=by
 refine SCall.eG rfl ?_ (by exact⟨trivial,trivial⟩) (by exact⟨trivial,trivial,trivial⟩) h
 refine SCall.listed (fn:=Go.Proofs.Tryz.f136) (by kernel_rfl) bFo (by kernel_rfl) (by kernel_rfl) (Nat.le_refl _) rfl (trivial) (by exact⟨trivial,trivial,trivial⟩) ?_
 unfold bEm
 obtain⟨c,r,rfl⟩:∃c r,s=c::r:=by cases s with|nil=>simp at h1|cons c r=>exact⟨c,r,rfl⟩
 obtain⟨hc1,hc2⟩:=aBw (i:=0) hd rfl
 refine WR.seq (WR.q rfl ?_)
 refine WR.seq (WR.q rfl ?_)
 repeat apply sQ
 refine WR.m 12 rfl ?_
 rw[show decide ((0:Int)<((c::r).length:Int))=true from decide_eq_true (by omega)]
 refine WQ.m 3 rfl ?_
 rw[show decide (((c::r).length:Int)<19)=true from decide_eq_true (by omega)]
 refine WQ.q rfl ?_
 repeat apply sQ
 refine WR.aD rfl ?_
 repeat apply sQ
 refine WR.q rfl ?_
 repeat apply sQ
 refine WR.m 3 rfl ?_
 rw[show decide ((c:Int)=45)=false from decide_eq_false (by omega)]
 refine WQ.m 4 rfl ?_
 rw[show decide ((c:Int)=43)=false from decide_eq_false (by omega)]
 refine WQ.q rfl ?_
 repeat apply sQ
 refine WR.k rfl ?_
 unfold aHb
 repeat apply sQ
 refine WR.q rfl ?_
 repeat apply sQ
 refine WR.q rfl ?_
 rw[List.length_map]
 repeat apply sQ
 refine(WR.block (WR.loop (WLr.weak (s:=SL.toS ⟨bLe (c::r) 0 0,[],none,1000,[],[]⟩) ?_ (aPz (c::r) hd hl (fun tm ht=>?_) (c::r).length 0 0 (by omega) (by decide) rfl))))
 ·refine SW.aQ ?_ ?_
  ·exact tQ
  ·exact lQ
 ·refine WR.weak (SW.aQ ht .nil) ?_
  unfold aFv
  repeat apply sQ
  refine WR.m 3 rfl ?_
  rw[show decide ((c:Int)=45)=false from decide_eq_false (by omega)]
  refine WQ.q rfl ?_
  repeat apply sQ
  refine WR.k rfl ?_
  unfold aHl
  repeat(first|refine WR.seq ?_|refine WR.block ?_|refine WR.scope ?_|refine WR.skip ?_|refine WR.exit ?_|refine WR.aD rfl ?_|refine WR.aO rfl ?_|refine WR.m 1000 rfl ?_|refine WQ.aK ?_|refine WR.aN aZ (DW.m 1000 rfl ?_))
  exact WR.e
theorem bBz{s:List Nat}(hd:digits s=true)(h1:1≤s.length)(hl:s.length≤15)(h:H):SCall Go.Proofs.Tryz.prog [] 135 [.str s] none h (.ret (.tup [.int .i64 (aDd s),.fN])) none h:=by
 refine SCall.eG rfl ?_ (by exact⟨trivial,trivial⟩) (by exact⟨trivial,trivial,trivial⟩) h
 refine SCall.listed (fn:=Go.Proofs.Tryz.f135) (by kernel_rfl) bHl (by kernel_rfl) (by kernel_rfl) (Nat.le_refl _) rfl (trivial) (by exact⟨trivial,trivial,trivial⟩) ?_
 unfold bEl
 refine WR.seq (WR.q rfl ?_)
 refine WR.seq (WR.m 1 rfl ?_)
 refine WQ.c rfl (bBq hd h1 hl _) .base rfl ?_
 refine WQ.q rfl ?_
 repeat(first|refine WR.seq ?_|refine WR.block ?_|refine WR.scope ?_|refine WR.skip ?_|refine WR.exit ?_|refine WR.aD rfl ?_|refine WR.aO rfl ?_|refine WR.m 1000 rfl ?_|refine WQ.aK ?_|refine WR.aN aZ (DW.m 1000 rfl ?_))
 exact WR.e
end Go.VM
end
section
/- Expressions: the number of a token. -/
set_option maxRecDepth 100000
namespace Go.VM
open Go.RowKit
def wG(s:List Nat):Bool:=digits s&&(Nat.ble 1 s.length&&Nat.ble s.length 15)
def gN(l:List Tz)(s:List Nat)(a d:Nat):R Int:=match wG s with|true=>.ok (aDd s) a|false=>fZ l a d 2
def bGa(s:List Nat)(i:Nat):TM:=[(0,.v (.ptr 1000 0)),(1,.v (.str s)),(10,.v (.lst (s.map fun(n:Nat)=>[V.int .u8 n]) .unk)),(11,.v (.int .i64 s.length)),(12,.v (.int .i64 i))]
theorem aIz{QN:S→Prop}{QX:X→S→Prop}(l:List Tz)(a d:Nat)(hl:l.length<4294967296)(s:List Nat)(hs:s.length<big)
  (h0:digits s=true→∀tm,TellT tm [] [(0,.v (.ptr 1000 0)),(1,.v (.str s))]→QX (.exit 0) (SL.toS ⟨tm,[],none,1002,rdL l a d,[]⟩))
  (h1:digits s=false→∀tm,QX (.panic (dB (aB l a).a 2)) (SL.toS ⟨tm,[],none,1002,rdL l a d,[]⟩)):∀(m i:Nat),i+m=s.length→digits s=digits (s.drop i)→
  WLr Go.Proofs.Tryz.prog [] ⟨Go.Proofs.Tryz.f131.ntmps,none,131⟩ uK (SL.toS ⟨bGa s i,[],none,1002,rdL l a d,[]⟩) QN QX:=by
 intro m
 induction m with
 |zero=>
  intro i hi he
  rw[List.drop_eq_nil_iff.2 (by omega)]at he
  have he:digits s=true:=he
  unfold uK
  refine WLr.of ?_
  repeat apply sQ
  refine WR.m 1 rfl ?_
  rw[show decide ((i:Int)<(s.length:Int))=false from decide_eq_false (by omega)]
  refine WQ.q rfl ?_
  repeat apply sQ
  refine WR.aO rfl (WR.exit (h0 he _ ?_))
  exact tQ
 |succ m ih=>
  intro i hi he
  obtain⟨c,hc,hdr⟩:∃c,s[i]? =some c∧s.drop i=c::s.drop (i+1):=⟨s[i],List.getElem?_eq_getElem (by omega),List.drop_eq_getElem_cons (by omega)⟩
  rw[hdr]at he
  have he:digits s=((Nat.ble 48 c&&Nat.ble c 57)&&digits (s.drop (i+1))):=he
  unfold uK
  refine WLr.of ?_
  repeat apply sQ
  refine WR.m 1 rfl ?_
  rw[show decide ((i:Int)<(s.length:Int))=true from decide_eq_true (by omega)]
  refine WQ.q rfl ?_
  repeat apply sQ
  refine WR.aD rfl (WR.skip ?_)
  repeat apply sQ
  refine WR.block ?_
  repeat apply sQ
  refine WR.reg ?_
  refine WQ.cE rfl rfl rfl (bT (cs:=[.int .u8 c]) rfl rfl (by rw[List.getElem?_map,hc];rfl) rfl) rfl ?_
  refine WQ.q rfl ?_
  repeat apply sQ
  refine WR.m 3 rfl ?_
  by_cases hc1:c<48
  ·rw[show decide ((c:Int)<48)=true from decide_eq_true (by omega)]
   refine WQ.q rfl ?_
   repeat apply sQ
   refine WR.aD rfl ?_
   have e:digits s=false:=by rw[he,show Nat.ble 48 c=false from by cases hq:Nat.ble 48 c with|false=>rfl|true=>exact absurd (Nat.le_of_ble_eq_true hq) (by omega)];rfl
   repeat apply sQ
   refine WR.m 1 rfl ?_
   refine WQ.aL rfl rfl rfl rfl rfl (hY (l:=l) (a:=a) (d:=d) (M:=1001) hl (by decide) (by decide) (by decide) rfl rfl) .base (h1 e _)
  ·rw[show decide ((c:Int)<48)=false from decide_eq_false (by omega)]
   refine WQ.m 2 rfl ?_
   by_cases hc2:c>57
   ·rw[show decide ((c:Int)>57)=true from decide_eq_true (by omega)]
    refine WQ.q rfl ?_
    repeat apply sQ
    refine WR.aD rfl ?_
    have e:digits s=false:=by rw[he,show Nat.ble c 57=false from by cases hq:Nat.ble c 57 with|false=>rfl|true=>exact absurd (Nat.le_of_ble_eq_true hq) (by omega),Bool.and_false];rfl
    repeat apply sQ
    refine WR.m 1 rfl ?_
    refine WQ.aL rfl rfl rfl rfl rfl (hY (l:=l) (a:=a) (d:=d) (M:=1001) hl (by decide) (by decide) (by decide) rfl rfl) .base (h1 e _)
   ·rw[show decide ((c:Int)>57)=false from decide_eq_false (by omega)]
    refine WQ.q rfl ?_
    repeat apply sQ
    refine WR.k rfl ?_
    have e:digits s=digits (s.drop (i+1)):=by rw[he,show Nat.ble 48 c=true from Nat.ble_eq.mpr (by omega),show Nat.ble c 57=true from Nat.ble_eq.mpr (by omega)];rfl
    unfold aHc
    repeat apply sQ
    refine WR.m 1 rfl ?_
    rw[bJ (by omega)]
    refine WQ.q rfl ?_
    refine WIr.again (WLr.weak ?_ (ih (i+1) (by omega) e))
    refine SW.aQ ?_ ?_
    ·exact tQ
    ·exact lQ
theorem aFr(l:List Tz)(a d:Nat)(hl:l.length<4294967296)(s:List Nat)(hs:s.length<big):Sp 131 [.str s] l a d bJf (gN l s a d):=by
 intro _
 unfold gN
 cases hi:wG s with
 |false=>
  refine SCall.aJ (fn:=Go.Proofs.Tryz.f131) (by kernel_rfl) aXo (by kernel_rfl) (by kernel_rfl) (Nat.le_refl _) rfl ((dW (by show 1001<1002;decide) _ _ _)) bB ?_
  unfold aXc
  repeat apply sQ
  refine WR.q rfl ?_
  repeat apply sQ
  refine WR.q rfl ?_
  rw[List.length_map]
  repeat apply sQ
  refine WR.block (WR.loop (WLr.weak (s:=SL.toS ⟨bGa s 0,[],none,1002,rdL l a d,[]⟩) ?_ (aIz l a d hl s hs (fun hd tm ht=>?_) (fun _ tm=>⟨rfl,rfl,rfl,fun _ _=>rfl⟩) s.length 0 (by omega) rfl)))
  ·refine SW.aQ ?_ ?_
   ·exact tQ
   ·exact lQ
  ·refine WR.weak (SW.aQ ht .nil) ?_
   unfold wG at hi
   rw[hd,Bool.true_and]at hi
   unfold zU
   repeat apply sQ
   refine WR.m 4 rfl ?_
   by_cases h1:s.length<1
   ·rw[show decide ((s.length:Int)<1)=true from decide_eq_true (by omega)]
    refine WQ.q rfl ?_
    repeat apply sQ
    refine WR.aD rfl ?_
    repeat apply sQ
    refine WR.m 1 rfl ?_
    refine WQ.aL rfl rfl rfl rfl rfl (hY (l:=l) (a:=a) (d:=d) (M:=1001) hl (by decide) (by decide) (by decide) rfl rfl) .base ⟨rfl,rfl,rfl,fun _ _=>rfl⟩
   ·rw[show decide ((s.length:Int)<1)=false from decide_eq_false (by omega)]
    refine WQ.m 3 rfl ?_
    have h2:s.length>15:=by
     rw[show Nat.ble 1 s.length=true from Nat.ble_eq.mpr (by omega),Bool.true_and]at hi
     rcases Nat.lt_or_ge 15 s.length with h|h
     ·exact h
     ·rw[Nat.ble_eq.mpr h]at hi;cases hi
    rw[show decide ((s.length:Int)>15)=true from decide_eq_true (by omega)]
    refine WQ.q rfl ?_
    repeat apply sQ
    refine WR.aD rfl ?_
    repeat apply sQ
    refine WR.m 1 rfl ?_
    refine WQ.aL rfl rfl rfl rfl rfl (hY (l:=l) (a:=a) (d:=d) (M:=1001) hl (by decide) (by decide) (by decide) rfl rfl) .base ⟨rfl,rfl,rfl,fun _ _=>rfl⟩
 |true=>
  unfold wG at hi
  simp only[Bool.and_eq_true,Nat.ble_eq]at hi
  obtain⟨hd,h1,h2⟩:=hi
  refine SCall.aJ (fn:=Go.Proofs.Tryz.f131) (by kernel_rfl) aXo (by kernel_rfl) (by kernel_rfl) (Nat.le_refl _) rfl ((dW (by show 1001<1002;decide) _ _ _)) trivial ?_
  unfold aXc
  repeat apply sQ
  refine WR.q rfl ?_
  repeat apply sQ
  refine WR.q rfl ?_
  rw[List.length_map]
  repeat apply sQ
  refine WR.block (WR.loop (WLr.weak (s:=SL.toS ⟨bGa s 0,[],none,1002,rdL l a d,[]⟩) ?_ (aIz l a d hl s hs (fun hd tm ht=>?_) (fun e=>by rw[hd]at e;cases e) s.length 0 (by omega) rfl)))
  ·refine SW.aQ ?_ ?_
   ·exact tQ
   ·exact lQ
  ·refine WR.weak (SW.aQ ht .nil) ?_
   unfold zU
   repeat apply sQ
   refine WR.m 4 rfl ?_
   rw[show decide ((s.length:Int)<1)=false from decide_eq_false (by omega)]
   refine WQ.m 3 rfl ?_
   rw[show decide ((s.length:Int)>15)=false from decide_eq_false (by omega)]
   refine WQ.q rfl ?_
   repeat apply sQ
   refine WR.k rfl ?_
   unfold aIl
   repeat apply sQ
   refine WR.m 1 rfl ?_
   refine WQ.c rfl (bBz hd h1 h2 _) .base rfl ?_
   refine WQ.q rfl ?_
   repeat(first|refine WR.seq ?_|refine WR.block ?_|refine WR.scope ?_|refine WR.skip ?_|refine WR.exit ?_|refine WR.aD rfl ?_|refine WR.aO rfl ?_|refine WR.m 1000 rfl ?_|refine WQ.aK ?_|refine WR.aN aZ (DW.m 1000 rfl ?_))
   exact WR.e
end Go.VM
end
section
/- Expressions: types: tokens of types. -/
set_option maxRecDepth 100000
namespace Go.VM
open Go.RowKit
inductive Tx where
 |mk (k:Nat) (a:Int) (p n:List Nat) (l:List Tx)
mutual
def cD:Tx→List V
 |.mk k a p n l=>[.int .i64 k,.int .i64 a,.str p,.str n,.lst (oQ l) .unk]
def oQ:List Tx→List (List V)
 |[]=>[]
 |x::l=>cD x::oQ l
end
mutual
theorem jB{D:Nat→Prop}:∀x:Tx,Ins D (cD x)
 |.mk k a p n l=>⟨trivial,trivial,trivial,trivial,⟨gM l,trivial⟩,trivial⟩
theorem gM{D:Nat→Prop}:∀l:List Tx,Inss D (oQ l)
 |[]=>trivial
 |x::l=>⟨jB x,gM l⟩
end
def zTx:List V:=[.int .i64 0,.int .i64 0,.str [],.str [],.lst [] (.ex 0)]
def lsV(l:List Tz):V:=.lst (l.map dA) .unk
theorem rX{D:Nat→Prop}(l:List Tz):(lsV l).In D:=⟨xY _,trivial⟩
theorem fH(l:List Tz)(a:Nat)(hl:l.length<4294967296)(h:H):SCall Go.Proofs.Tryz.prog [] 98 [lsV l,.int .i64 a] none h (.ret (.agg (dA (aB l a)))) none h:=by
 refine SCall.eG rfl ?_ (by exact⟨rX l,trivial,trivial⟩) (by exact⟨trivial,trivial,trivial,trivial,trivial⟩) h
 refine SCall.listed (fn:=Go.Proofs.Tryz.f98) (by kernel_rfl) bIw (by kernel_rfl) (by kernel_rfl) (Nat.le_refl _) rfl (trivial) (by exact⟨trivial,trivial,trivial,trivial,trivial⟩) ?_
 unfold bIt
 unfold lsV
 repeat apply sQ
 refine WR.q rfl ?_
 repeat apply sQ
 refine WR.m 3 rfl ?_
 rw[show decide ((a:Int)≥0)=true from decide_eq_true (by omega)]
 refine WQ.m 4 rfl ?_
 rw[List.length_map]
 by_cases h:a<l.length
 ·rw[show decide ((a:Int)<(l.length:Int))=true from decide_eq_true (by omega)]
  have hc:l[a]? =some l[a]:=List.getElem?_eq_getElem h
  rw[fU hc]
  generalize l[a]=t at hc⊢
  refine WQ.q rfl ?_
  repeat apply sQ
  refine WR.aD rfl ?_
  repeat apply sQ
  refine WR.m 2 rfl ?_
  refine WQ.cE rfl rfl rfl (bT (cs:=dA t) rfl rfl (by rw[List.getElem?_map,hc];rfl) rfl) rfl ?_
  refine WQ.q rfl ?_
  exact WR.e
 ·rw[show decide ((a:Int)<(l.length:Int))=false from decide_eq_false (by omega)]
  rw[kK (by omega)]
  refine WQ.q rfl ?_
  repeat apply sQ
  refine WR.k rfl ?_
  repeat apply sQ
  refine WR.q rfl ?_
  repeat apply sQ
  refine WR.q rfl ?_
  rw[List.length_map]
  repeat apply sQ
  refine WR.m 2 rfl ?_
  rcases Nat.eq_zero_or_pos l.length with h0|h0
  ·have h0:l=[]:=List.eq_nil_of_length_eq_zero h0
   subst h0
   refine WQ.q rfl ?_
   repeat apply sQ
   refine WR.k rfl ?_
   unfold aEa
   repeat(first|refine WR.seq ?_|refine WR.block ?_|refine WR.scope ?_|refine WR.skip ?_|refine WR.exit ?_|refine WR.aD rfl ?_|refine WR.aO rfl ?_|refine WR.m 1000 rfl ?_|refine WQ.aK ?_|refine WR.aN aZ (DW.m 1000 rfl ?_))
   exact WR.e
  ·rw[show decide ((l.length:Int)>0)=true from decide_eq_true (by omega)]
   have hc:l[l.length-1]? =some l[l.length-1]:=List.getElem?_eq_getElem (by omega)
   rw[pK hc]
   generalize l[l.length-1]=t at hc⊢
   refine WQ.q rfl ?_
   repeat apply sQ
   refine WR.aD rfl ?_
   repeat apply sQ
   refine WR.m 3 rfl ?_
   rw[rB (by omega) (by unfold big;omega)]
   refine WQ.cE rfl rfl rfl (bT (cs:=dA t) rfl rfl (by rw[List.getElem?_map,hc];rfl) rfl) rfl (WQ.q rfl ?_)
   unfold aEa
   repeat(first|refine WR.seq ?_|refine WR.block ?_|refine WR.scope ?_|refine WR.skip ?_|refine WR.exit ?_|refine WR.aD rfl ?_|refine WR.aO rfl ?_|refine WR.m 1000 rfl ?_|refine WQ.aK ?_|refine WR.aN aZ (DW.m 1000 rfl ?_))
   exact WR.e
def kA(t:Tz)(s:List Nat):Bool:=decide (t.k=4)&&decide (t.t=s)
theorem qR(l:List Tz)(a:Nat)(s:List Nat):isF l a 4 s=kA (aB l a) s:=rfl
theorem gI(t:Tz)(s:List Nat)(h:H):SCall Go.Proofs.Tryz.prog [] 99 [.agg (dA t),.str s] none h (.ret (.bool (kA t s))) none h:=by
 refine SCall.eG rfl ?_ (by exact⟨⟨trivial,trivial,trivial,trivial,trivial⟩,trivial,trivial⟩) (by exact trivial) h
 refine SCall.listed (fn:=Go.Proofs.Tryz.f99) (by kernel_rfl) bKl (by kernel_rfl) (by kernel_rfl) (Nat.le_refl _) rfl (trivial) trivial ?_
 unfold bKe
 unfold kA
 repeat apply sQ
 refine WR.q rfl ?_
 repeat apply sQ
 refine WR.m 4 rfl ?_
 refine WQ.guard 8 rfl (fun e=>?_) (fun e=>?_)<;>rw[e]
 ·refine WQ.q rfl ?_
  exact WR.e
 ·refine WQ.q rfl ?_
  exact WR.e
def tyV(r:R Tx):V:=match r with
 |.ok x n=>.tup [.agg (cD x),.int .i64 n,.agg [.int .i64 0,.int .i64 0]]
 |.er _ _ p c=>.tup [.agg zTx,.int .i64 0,.agg [.int .i64 p,.int .i64 c]]
 |.out=>.bool false
theorem gC(t:Tz)(c:Int)(h:H):SCall Go.Proofs.Tryz.prog [] 97 [.agg (dA t),.int .i64 c] none h (.ret (tyV (.er 0 0 t.a c))) none h:=by
 refine SCall.eG rfl ?_ (by exact⟨⟨trivial,trivial,trivial,trivial,trivial⟩,trivial,trivial⟩) (by exact⟨⟨trivial,trivial,trivial,trivial,⟨trivial,trivial⟩,trivial⟩,trivial,⟨trivial,trivial,trivial⟩,trivial⟩) h
 refine SCall.listed (fn:=Go.Proofs.Tryz.f97) (by kernel_rfl) bLw (by kernel_rfl) (by kernel_rfl) (Nat.le_refl _) rfl (trivial) (by exact⟨⟨trivial,trivial,trivial,trivial,⟨trivial,trivial⟩,trivial⟩,trivial,⟨trivial,trivial,trivial⟩,trivial⟩) ?_
 unfold bLx
 repeat(first|refine WR.seq ?_|refine WR.block ?_|refine WR.scope ?_|refine WR.skip ?_|refine WR.exit ?_|refine WR.aD rfl ?_|refine WR.aO rfl ?_|refine WR.m 1000 rfl ?_|refine WQ.aK ?_|refine WR.aN aZ (DW.m 1000 rfl ?_))
 refine DW.stS pQ rfl rfl rfl rfl (DW.m 1000 rfl ?_)
 refine DW.stS pQ rfl rfl rfl rfl (DW.m 1000 rfl ?_)
 refine DW.bS pQ ?_
 exact WR.ret ⟨rfl,rfl,⟨_,rfl,vQ⟩,fun b hb=>rfl⟩
end Go.VM
end
section
/- Expressions: types: the brackets ahead of a type. -/
set_option maxRecDepth 100000
namespace Go.VM
open Go.RowKit
inductive OpenR where
 |brk (a:Nat) (ls:List Int)
 |er (p c:Int)
def cI(l:List Tz):Nat→Nat→List Int→OpenR
 |0,a,ls=>match kA (aB l a) [91]with
  |false=>.brk a ls
  |true=>.er (aB l a).a 6
 |m+1,a,ls=>match kA (aB l a) [91]with
  |false=>.brk a ls
  |true=>match kA (aB l (a+1)) [93]with
   |false=>.er (aB l (a+1)).a 5
   |true=>cI l m (a+2) (ls++[(aB l a).a])
def tE(p:Int):List V:=[.int .i64 p]
def lvI:List Int→V
 |[]=>.lst [] (.ex 0)
 |p::l=>.lst ((p::l).map tE) (.tk 1000)
def aQh:List Int→OL
 |[]=>[]
 |p::l=>[(1000,.tok (p::l).length)]
def nxI:List Int→Nat
 |[]=>1000
 |_::_=>1001
theorem yF(ls:List Int)(b:Nat)(h:b<1000):og [] b=og (aQh ls) b:=by
 cases ls with
 |nil=>rfl
 |cons p l=>simp only[aQh,aT];rw[if_neg (by omega)]
def bCw(l:List Tz)(a:Nat)(ls:List Int):TM:=[(0,.v (lsV l)),(1,.v (.int .i64 a)),(4,.l 4 0),(5,.v (.int .i64 0)),(6,.l 6 0),(7,.v (.fn (.func 97) [] [])),(8,.v (lvI ls))]
def aSq:LM:=[(4,zTx),(6,[.int .i64 0,.int .i64 0])]
theorem aTb{l:List Tz}{a:Nat}{s:List Nat}(h:kA (aB l a) s=true):l[a]? =some (aB l a):=yH (k:=4) (s:=s) h (by decide)
theorem nW{l:List Tz}{a:Nat}{s:List Nat}(h:kA (aB l a) s=true):a<l.length:=(List.getElem?_eq_some_iff.1 (aTb h)).1
theorem aQr{QN:S→Prop}{QX:X→S→Prop}(l:List Tz)(hl:l.length<4294967296):∀(m a:Nat) (ls:List Int),ls.length+m=30→a≤l.length→
  (∀a' ls',cI l m a ls=.brk a' ls'→ls'.length≤30→a'≤l.length→∀tm,TellT tm aSq (bCw l a' ls')→∀lc,TellL lc aSq→QX (.exit 0) (SL.toS ⟨tm,[],none,nxI ls',aQh ls',lc⟩))→
  (∀p c,cI l m a ls=.er p c→∀s,mH Go.Proofs.Tryz.prog Go.Proofs.Tryz.f88 (tyV (.er 0 0 p c)) 1000 [] s→QX .ret s)→
  WLr Go.Proofs.Tryz.prog [] ⟨Go.Proofs.Tryz.f88.ntmps,none,88⟩ tZ (SL.toS ⟨bCw l a ls,[],none,nxI ls,aQh ls,aSq⟩) QN QX:=by
 intro m
 induction m with
 |zero=>
  intro a ls hm ha hb he
  obtain⟨q,r,rfl⟩:∃q r,ls=q::r:=by cases ls with|nil=>simp at hm|cons q r=>exact⟨q,r,rfl⟩
  unfold tZ
  refine WLr.of (WR.block ?_)
  repeat apply sQ
  refine WR.m 2 rfl ?_
  refine WQ.c rfl (fH l a hl _) .base rfl ?_
  refine WQ.q rfl ?_
  repeat apply sQ
  refine WR.block ?_
  repeat apply sQ
  refine WR.m 1 rfl ?_
  refine WQ.c rfl (gI (aB l a) [91] _) .base rfl ?_
  refine WQ.q rfl ?_
  cases hs:kA (aB l a) [91]with
  |false=>
   refine WR.aD rfl (WR.exit (hb a _ (by simp only[cI,hs]) (by omega) ha _ ?_ _ ?_))
   ·exact tQ
   ·exact lQ
  |true=>
   refine WR.aO rfl ?_
   repeat apply sQ
   refine WR.m 3 rfl ?_
   rw[List.length_map,show(q::r).length=30 from hm,show decide (((30:Nat):Int)=30)=true from rfl]
   refine WQ.q rfl ?_
   repeat apply sQ
   refine WR.aD rfl ?_
   repeat apply sQ
   refine WR.m 2 rfl ?_
   refine WQ.c rfl (gC (aB l a) 6 _) .base rfl ?_
   refine WQ.q rfl ?_
   exact WR.ret (he _ _ (by simp only[cI,hs]) _ ⟨rfl,rfl,⟨_,rfl,VLe.refl _⟩,fun b hb=>yF (q::r) b hb⟩)
 |succ m ih=>
  intro a ls hm ha hb he
  cases ls with
  |nil=>
   unfold tZ
   refine WLr.of (WR.block ?_)
   repeat apply sQ
   refine WR.m 2 rfl ?_
   refine WQ.c rfl (fH l a hl _) .base rfl ?_
   refine WQ.q rfl ?_
   repeat apply sQ
   refine WR.block ?_
   repeat apply sQ
   refine WR.m 1 rfl ?_
   refine WQ.c rfl (gI (aB l a) [91] _) .base rfl ?_
   refine WQ.q rfl ?_
   cases hs:kA (aB l a) [91]with
   |false=>
    refine WR.aD rfl (WR.exit (hb a _ (by simp only[cI,hs]) (by omega) ha _ ?_ _ ?_))
    ·exact tQ
    ·exact lQ
   |true=>
    refine WR.aO rfl ?_
    repeat apply sQ
    refine WR.q rfl ?_
    refine WR.aO rfl ?_
    have ha1:=nW hs
    repeat apply sQ
    refine WR.m 3 rfl ?_
    rw[bJ (by unfold big;omega)]
    refine WQ.m 1 rfl ?_
    refine WQ.c rfl (fH l (a+1) hl _) .base rfl ?_
    refine WQ.c rfl (gI (aB l (a+1)) [93] _) .base rfl ?_
    refine WQ.q rfl ?_
    cases hs2:kA (aB l (a+1)) [93]with
    |false=>
     refine WR.aD rfl ?_
     repeat apply sQ
     refine WR.m 4 rfl ?_
     rw[bJ (by unfold big;omega)]
     refine WQ.m 1 rfl ?_
     refine WQ.c rfl (fH l (a+1) hl _) .base rfl ?_
     refine WQ.c rfl (gC (aB l (a+1)) 5 _) .base rfl ?_
     refine WQ.q rfl ?_
     exact WR.ret (he _ _ (by simp only[cI,hs,hs2]) _ ⟨rfl,rfl,⟨_,rfl,VLe.refl _⟩,fun b hb=>yF [] b hb⟩)
    |true=>
     refine WR.k rfl ?_
     unfold aDx
     repeat apply sQ
     refine WR.m 4 rfl ?_
     refine WQ.eC rfl (jN (n2:=1) (es2:=[tE (aB l a).a]) rfl rfl (Nat.zero_lt_one) (by simp) (by simp) (by show 8*1≤lim;decide) rfl rfl rfl rfl) rfl ?_
     have ha2:=nW hs2
     refine WQ.q rfl ?_
     repeat apply sQ
     refine WR.m 2 rfl ?_
     rw[show IntKind.i64.wrap ((a:Int)+2)=((a+2:Nat):Int)from by rw[wrap64 (by omega) (by omega)];rfl]
     refine WQ.q rfl ?_
     simp only[cI,hs,hs2]at hb he
     refine WIr.again (WLr.weak ?_ (ih (a+2) [(aB l a).a] (by simp at hm⊢;omega) (by omega) hb he))
     refine SW.aQ ?_ ?_
     ·exact tQ
     ·exact lQ
  |cons q r=>
   unfold tZ
   refine WLr.of (WR.block ?_)
   repeat apply sQ
   refine WR.m 2 rfl ?_
   refine WQ.c rfl (fH l a hl _) .base rfl ?_
   refine WQ.q rfl ?_
   repeat apply sQ
   refine WR.block ?_
   repeat apply sQ
   refine WR.m 1 rfl ?_
   refine WQ.c rfl (gI (aB l a) [91] _) .base rfl ?_
   refine WQ.q rfl ?_
   cases hs:kA (aB l a) [91]with
   |false=>
    refine WR.aD rfl (WR.exit (hb a _ (by simp only[cI,hs]) (by omega) ha _ ?_ _ ?_))
    ·exact tQ
    ·exact lQ
   |true=>
    refine WR.aO rfl ?_
    repeat apply sQ
    refine WR.m 3 rfl ?_
    rw[List.length_map,show decide (((q::r).length:Int)=30)=false from decide_eq_false (by omega)]
    refine WQ.q rfl ?_
    refine WR.aO rfl ?_
    have ha1:=nW hs
    repeat apply sQ
    refine WR.m 3 rfl ?_
    rw[bJ (by unfold big;omega)]
    refine WQ.m 1 rfl ?_
    refine WQ.c rfl (fH l (a+1) hl _) .base rfl ?_
    refine WQ.c rfl (gI (aB l (a+1)) [93] _) .base rfl ?_
    refine WQ.q rfl ?_
    cases hs2:kA (aB l (a+1)) [93]with
    |false=>
     refine WR.aD rfl ?_
     repeat apply sQ
     refine WR.m 4 rfl ?_
     rw[bJ (by unfold big;omega)]
     refine WQ.m 1 rfl ?_
     refine WQ.c rfl (fH l (a+1) hl _) .base rfl ?_
     refine WQ.c rfl (gC (aB l (a+1)) 5 _) .base rfl ?_
     refine WQ.q rfl ?_
     exact WR.ret (he _ _ (by simp only[cI,hs,hs2]) _ ⟨rfl,rfl,⟨_,rfl,VLe.refl _⟩,fun b hb=>yF (q::r) b hb⟩)
    |true=>
     refine WR.k rfl ?_
     unfold aDx
     repeat apply sQ
     refine WR.m 4 rfl ?_
     refine WQ.eC rfl (jL (n:=(q::r).length) (n2:=(q::r++[(aB l a).a]).length) (es2:=(q::r++[(aB l a).a]).map tE) rfl rfl rfl (List.length_map ..).symm ?_ ?_ ?_ rfl ?_ ?_ rfl) rfl ?_
     ·simp[tE]
     ·simp[tE]
     ·simp only[List.length_map,List.length_cons,List.length_nil]at hm⊢;unfold lim;omega
     ·simp[tE,V.bV]
     ·simp
     have ha2:=nW hs2
     refine WQ.q rfl ?_
     repeat apply sQ
     refine WR.m 2 rfl ?_
     rw[show IntKind.i64.wrap ((a:Int)+2)=((a+2:Nat):Int)from by rw[wrap64 (by omega) (by omega)];rfl]
     refine WQ.q rfl ?_
     simp only[cI,hs,hs2]at hb he
     refine WIr.again (WLr.weak ?_ (ih (a+2) (q::r++[(aB l a).a]) (by simp at hm⊢;omega) (by omega) hb he))
     refine SW.aQ ?_ ?_
     ·exact tQ
     ·exact lQ
end Go.VM
end
section
/- Expressions: types: the type itself. -/
set_option maxRecDepth 100000
namespace Go.VM
open Go.RowKit
def uE(s:List Nat):Option Nat:=match decide (s=[105,110,116])with
 |true=>some 1
 |false=>match decide (s=[98,111,111,108])with
  |true=>some 2
  |false=>match decide (s=[116,101,120,116])with
   |true=>some 3
   |false=>none
def eY(l:List Tz)(a:Nat):R Tx:=
 match decide ((aB l a).k=5)&&(uE (aB l a).t).isSome with
 |true=>.ok (.mk ((uE (aB l a).t).getD 0) (aB l a).a [] [] []) a
 |false=>match decide ((aB l a).k=1)with
  |true=>match kA (aB l (a+1)) [46]with
   |true=>match decide ((aB l (a+2)).k=1)with
    |true=>.ok (.mk 4 (aB l a).a (aB l a).t (aB l (a+2)).t []) (a+2)
    |false=>.er 0 0 (aB l (a+2)).a 5
   |false=>.ok (.mk 4 (aB l a).a [] (aB l a).t []) a
  |false=>.er 0 0 (aB l a).a 5
def iE:List Int→Tx→Tx
 |[],x=>x
 |p::ls,x=>.mk 5 p [] [] [iE ls x]
def tyF(l:List Tz)(a:Nat):R Tx:=match cI l 30 a []with
 |.er p c=>.er 0 0 p c
 |.brk a' ls=>match eY l a' with
  |.ok x a2=>.ok (iE ls x) (a2+1)
  |.er _ _ p c=>.er 0 0 p c
  |.out=>.out
def xM:List (V×V):=[(.str [105,110,116],.int .i64 1),(.str [98,111,111,108],.int .i64 2),(.str [116,101,120,116],.int .i64 3)]
theorem bJj{gl:List Nat}{nt nx M:Nat}{tm:TM}{ol:OL}{lc:LM}{x k:RX}{s:List Nat}(hx:rv gl tm x=some (.map M))(hk:rv gl tm k=some (.str s))(hm:og ol M=some (.map xM)):
  cB Go.Proofs.Tryz.prog gl nt tm ⟨nx,og ol,lc⟩ (some (.lk x k true (.int .i64 0) .str)) (.v (.tup [.int .i64 ((uE s).getD 0),.bool (uE s).isSome])):=by
 refine bE ?_
 simp only[eK,rl,hx,hk,hm]
 unfold uE
 show(match(match jC (.str s) (.str [105,110,116])with|some true=>some (some (V.int .i64 1))|some false=>(match jC (.str s) (.str [98,111,111,108])with|some true=>some (some (V.int .i64 2))|some false=>(match jC (.str s) (.str [116,101,120,116])with|some true=>some (some (V.int .i64 3))|some false=>some none|none=>none)|none=>none)|none=>none)with|some (some v)=>some (TV.v (pP true v true))|some none=>some (TV.v (pP true (.int .i64 0) false))|none=>none)=_
 rw[show jC (.str s) (.str [105,110,116])=some (decide (s=[105,110,116]))from rfl,show jC (.str s) (.str [98,111,111,108])=some (decide (s=[98,111,111,108]))from rfl,show jC (.str s) (.str [116,101,120,116])=some (decide (s=[116,101,120,116]))from rfl]
 cases decide (s=[105,110,116])
 ·cases decide (s=[98,111,111,108])
  ·cases decide (s=[116,101,120,116])<;>rfl
  ·rfl
 ·rfl
def bHm(l:List Tz)(a:Nat)(ls:List Int)(i:Int):TM:=[(0,.v (lsV l)),(1,.v (.int .i64 a)),(4,.l 4 0),(5,.v (.int .i64 0)),(6,.l 6 0),(8,.v (lvI ls)),(11,.l 11 0),(15,.v (.int .i64 i))]
def aSi(x:Tx):LM:=[(4,zTx),(6,[.int .i64 0,.int .i64 0]),(11,cD x)]
theorem bIp{k:Nat}(h:k<100):IntKind.i64.wrap ((k:Int)-1)=(k:Int)-1:=wrap64 (by omega) (by omega)
theorem aWg{ls:List Int}{i:Nat}{p:Int}(h:ls[i]? =some p):∃c,lvI ls=.lst (ls.map tE) c:=by
 cases ls with
 |nil=>cases h
 |cons q r=>exact⟨_,rfl⟩
theorem aRb{QN:S→Prop}{QX:X→S→Prop}(l:List Tz)(a:Nat)(ls:List Int)(nx:Nat)(ol:OL)(hls:ls.length≤30)(y:Tx)
  (h0:∀tm,TellT tm (aSi y) [(1,.v (.int .i64 a)),(4,.l 4 0),(6,.l 6 0),(11,.l 11 0)]→∀lc,TellL lc (aSi y)→QX (.exit 4) (SL.toS ⟨tm,[],none,nx,ol,lc⟩)):∀(k:Nat) (x:Tx),k≤ls.length→iE (ls.take k) x=y→
  WLr Go.Proofs.Tryz.prog [] ⟨Go.Proofs.Tryz.f88.ntmps,none,88⟩ xD (SL.toS ⟨bHm l a ls ((k:Int)-1),[],none,nx,ol,aSi x⟩) QN QX:=by
 intro k
 induction k with
 |zero=>
  intro x _ hx
  have hx:x=y:=hx
  subst hx
  unfold xD
  refine WLr.of ?_
  repeat apply sQ
  refine WR.m 2 rfl ?_
  rw[show decide ((((0:Nat):Int)-1)≥0)=false from rfl]
  refine WQ.q rfl ?_
  repeat apply sQ
  refine WR.aO rfl (WR.exit (h0 _ ?_ _ ?_))
  ·exact tQ
  ·exact lQ
 |succ k ih=>
  intro x hk hx
  obtain⟨p,hp⟩:∃p,ls[k]? =some p:=⟨ls[k],List.getElem?_eq_getElem (by omega)⟩
  have hx:iE (ls.take k) (.mk 5 p [] [] [x])=y:=by
   rw[List.take_add_one,hp]at hx
   rw[←hx]
   have go:∀m:List Int,iE (m++[p]) x=iE m (.mk 5 p [] [] [x]):=by
    intro m
    induction m with
    |nil=>rfl
    |cons q m ihm=>simp only[List.cons_append,iE,ihm]
   exact(go _).symm
  obtain⟨c,hc⟩:=aWg hp
  obtain⟨xk,xa,xp,xn,xl⟩:=x
  unfold xD
  refine WLr.of ?_
  rw[show((k+1:Nat):Int)-1=(k:Int) by omega]
  repeat apply sQ
  refine WR.m 2 rfl ?_
  rw[show decide ((k:Int)≥0)=true from decide_eq_true (by omega)]
  refine WQ.q rfl ?_
  repeat apply sQ
  refine WR.aD rfl (WR.skip ?_)
  repeat apply sQ
  refine WR.block (WR.aN aZ (DW.m 2 rfl ?_))
  refine DW.cX rfl (fun h=>bT (cs:=tE p) (congrArg some hc) rfl (by rw[List.getElem?_map,hp];rfl) rfl) rfl (DW.m 1000 rfl ?_)
  refine DW.stS pQ rfl rfl rfl rfl (DW.m 1000 rfl (DW.bS pQ ?_))
  unfold aPl
  repeat apply sQ
  refine WR.m 2 rfl ?_
  rw[bIp (by omega)]
  refine WQ.q rfl ?_
  refine WIr.again (WLr.weak ?_ (ih (.mk 5 p [] [] [.mk xk xa xp xn xl]) (by omega) hx))
  refine SW.aQ ?_ ?_
  ·exact tQ
  ·refine .cons rfl (.inl rfl) (.cons rfl (.inl rfl) (.cons rfl (.inr ?_) .nil))
   exact cQ
theorem hC{QN:S→Prop}{QX:X→S→Prop}(l:List Tz)(a:Nat)(ha:a<4294967300)(ls:List Int)(nx:Nat)(ol:OL)(hls:ls.length≤30)(x:Tx)(hol:∀b,b<1000→og [] b=og ol b){tm:TM}{lc:LM}
  (ht:TellT tm (aSi x) [(0,.v (lsV l)),(1,.v (.int .i64 a)),(4,.l 4 0),(5,.v (.int .i64 0)),(6,.l 6 0),(8,.v (lvI ls)),(11,.l 11 0)]) (hlc:TellL lc (aSi x))
  (hq:∀s,mH Go.Proofs.Tryz.prog Go.Proofs.Tryz.f88 (tyV (.ok (iE ls x) (a+1))) 1000 [] s→QX .ret s):
  WR Go.Proofs.Tryz.prog [] ⟨Go.Proofs.Tryz.f88.ntmps,none,88⟩ aFi (SL.toS ⟨tm,[],none,nx,ol,lc⟩) QN QX:=by
 refine WR.weak (SW.aQ ht hlc) ?_
 unfold aFi
 have hlen:∃c,lvI ls=.lst (ls.map tE) c:=by
  cases ls with
  |nil=>exact⟨_,rfl⟩
  |cons q r=>exact⟨_,rfl⟩
 obtain⟨c,hc⟩:=hlen
 rw[hc]
 repeat apply sQ
 refine WR.m 2 rfl ?_
 rw[List.length_map]
 refine WQ.m 1 rfl ?_
 rw[bIp (by omega)]
 refine WQ.q rfl ?_
 repeat apply sQ
 refine WR.block (WR.loop (WLr.weak (s:=SL.toS ⟨bHm l a ls ((ls.length:Int)-1),[],none,nx,ol,aSi x⟩) ?_ (aRb l a ls nx ol hls (iE ls x) (fun tm ht lc hlc=>?_) ls.length x (Nat.le_refl _) (by rw[List.take_length]))))
 ·refine SW.aQ ?_ ?_
  ·unfold bHm
   rw[hc]
   exact tQ
  ·exact lQ
 ·generalize iE ls x=y at ht hlc hq
  obtain⟨xk,xa,xp,xn,xl⟩:=y
  refine WR.weak (SW.aQ ht hlc) ?_
  unfold aPe
  repeat apply sQ
  refine WR.m 3 rfl ?_
  rw[bJ (by unfold big;omega)]
  refine WQ.q rfl ?_
  refine WR.ret (hq _ ⟨rfl,rfl,⟨_,rfl,vQ⟩,hol⟩)
end Go.VM
end
