/- laid for this seat: VxT VxU VxV VxW VxX VxY -/
import Derived.Test.YtgadhdnnkdcgkaaGreatDoorVg5
import Derived.Test.YtgadhdnnkdcgkaaGreatDoorVmS
set_option linter.unusedVariables false
set_option linter.unusedSimpArgs false
section
/- Expressions: a list, and its end. -/
set_option maxRecDepth 100000
namespace Go.VM
open Go.RowKit
def pW(to:List Nat)(n:Nat)(cs:List V):OL:=[(1002,aAo),(1003,.cells false [.str to]),(1004,.cells false [lO n])]++aMt n cs
theorem uU{N:Nat}(h:1005≤N)(to:List Nat){n:Nat}(hn:1004+n<N){cs:List V}(hc:Ins (· <N) cs):gC (· <N) (pW to n cs):=by
 have:=aFh (D:=(· <N)) (by omega) (by omega) [] 0 0 to (.inr hn) hc
 exact this.2.2
theorem aIf(to:List Nat)(n:Nat)(cs:List V):olB (1005+n) (pW to n cs)=true:=by
 have:=aNv [] 0 0 to n cs
 have:(Nat.blt 1000 (1005+n)&&(Nat.blt 1001 (1005+n)&&olB (1005+n) (pW to n cs)))=true:=this
 simp only[Bool.and_eq_true]at this
 exact this.2.2
theorem aHz(l:List Tz)(hl:l.length<20000)(n:Nat)(hs:∀m,m<n→SpecF l (fns l m))(to:List Nat)(a d:Nat)(ha:a<l.length)(hd:d≤30):
  match aX l a d (eR l (fns l n) to)with
  |.ok es a1=>SCall Go.Proofs.Tryz.prog [] 125 [.ptr 1000 0,.fn (.func 134) [] [.ptr 1002 0,.ptr 1003 0,.ptr 1004 0]] none ⟨1005,og (plM l a d to 0 []),[]⟩ (.ret (.tup [])) none ⟨1005+es.length,og (plM l a1 d to es.length (flE es)),[]⟩
  |.er a1 d1 p c=>∃es:List Ex,SCall Go.Proofs.Tryz.prog [] 125 [.ptr 1000 0,.fn (.func 134) [] [.ptr 1002 0,.ptr 1003 0,.ptr 1004 0]] none ⟨1005,og (plM l a d to 0 []),[]⟩ (.pan (cV p c)) none ⟨1005+es.length,og (plM l a1 d1 to es.length (flE es)),[]⟩
  |.out=>True:=by
 have hl':l.length<4294967296:=by omega
 by_cases h30:d=30
 ·subst h30
  have e:aX l a 30 (eR l (fns l n) to)=fD l a 30 6:=by simp[aX]
  rw[e]
  exact⟨[],vX l a hl' 1005 (by decide) (pW to 0 []) rfl (uU (Nat.le_refl _) to (by decide) trivial) _⟩
 ·have e:aX l a d (eR l (fns l n) to)=eR l (fns l n) to (a+1) (d+1):=by simp[aX,h30]
  rw[e]
  cases hr:eR l (fns l n) to (a+1) (d+1)with
  |out=>trivial
  |ok es a1=>
   have h:=aVc l hl n hs to (a+1) (d+1) (by omega) (by omega) hr
   exact aCl l a d hl' ha (by omega) 1005 (1005+es.length) (by decide) (by omega) (pW to 0 []) (pW to es.length (flE es)) (aIf _ _ _) (uU (by omega) to (by omega) (vK _)) _ _ h
  |er a1 d1 p c=>
   obtain⟨es,h⟩:=aVj l hl n hs to (a+1) (d+1) (by omega) (by omega) hr
   exact⟨es,aBo l a d hl' ha (by omega) 1005 (1005+es.length) (by decide) (by omega) (pW to 0 []) (pW to es.length (flE es)) (aIf _ _ _) (uU (by omega) to (by omega) (vK _)) _ _ h⟩
theorem aSe(l:List Tz)(hl:l.length<20000)(n:Nat)(hs:∀m,m<n→SpecF l (fns l m))(to:List Nat)(a d:Nat)(ha:a<l.length)(hd:d≤30):
  Sp 128 [.str to] l a d aJd (cR l (fns l n) to a d):=by
 have hl':l.length<4294967296:=by omega
 have hw:=aHz l hl n hs to a d ha hd
 unfold cR
 intro ho
 cases hr:aX l a d (eR l (fns l n) to)with
 |out=>rw[hr]at ho;cases ho
 |er a1 d1 p c=>
  rw[hr]at hw
  obtain⟨es,hw⟩:=hw
  show SCall _ _ _ _ _ _ (.pan (cV p c)) _ ⟨1002,og (rdL l a1 d1),[]⟩
  refine SCall.aI (fn:=Go.Proofs.Tryz.f128) (by kernel_rfl) aFc (by kernel_rfl) (by kernel_rfl) (Nat.le_refl _) rfl ((dU (by show 1001<1002;decide) _ _ _)) bA ?_
  unfold aHp
  repeat apply sQ
  refine WR.reg (WQ.aG [2,3,4] 1000 _ _ _ _ rfl (WQ.aJ ?_))
  repeat apply sQ
  refine WR.reg (WQ.aG [2,3,4] 2 _ _ _ _ rfl ?_)
  exact WQ.aL rfl rfl rfl rfl rfl (SCall.fI hw _) .base ⟨rfl,rfl,rfl,tB _ _ _ _ _ _⟩
 |ok es a1=>
  rw[hr]at hw ho
  have ho:((cH l a1 d to).bind fun e a2=>R.ok (es,e) a2).aY=false:=ho
  have sp:=qS l a1 d hl' to
  show SCall _ _ _ _ _ _ (R.pP aJd ((cH l a1 d to).bind fun e a2=>R.ok (es,e) a2)) _ ⟨1002,og (rdL l ((cH l a1 d to).bind fun e a2=>R.ok (es,e) a2).at' (((cH l a1 d to).bind fun e a2=>R.ok (es,e) a2).dp d)),[]⟩
  cases hm:cH l a1 d to with
  |out=>rw[hm]at ho;cases ho
  |er a2 d2 p c=>
   rw[hm]at sp
   show SCall _ _ _ _ _ _ (.pan (cV p c)) _ ⟨1002,og (rdL l a2 d2),[]⟩
   refine SCall.aI (fn:=Go.Proofs.Tryz.f128) (by kernel_rfl) aFc (by kernel_rfl) (by kernel_rfl) (Nat.le_refl _) rfl ((dU (by show 1001<1002;decide) _ _ _)) bA ?_
   unfold aHp
   repeat apply sQ
   refine WR.reg (WQ.aG [2,3,4] 1000 _ _ _ _ rfl (WQ.aJ ?_))
   repeat apply sQ
   refine WR.reg (WQ.aG [2,3,4] 2 _ _ _ _ rfl ?_)
   refine WQ.c rfl (SCall.fI hw _) .base rfl ?_
   refine WQ.aJ ?_
   repeat apply sQ
   refine WR.aP aZ (DW.m 1000 rfl ?_)
   exact DW.aL pQ rfl rfl rfl rfl rfl (sp.er ⟨trivial,trivial⟩ (R:=1000) (M:=1001) (by decide) (by decide) (by decide) rfl rfl) (.put .base rfl) ⟨rfl,rfl,rfl,tB _ _ _ _ _ _⟩
  |ok e a2=>
   rw[hm]at sp
   show SCall _ _ _ _ _ _ (.ret (aJd (es,e))) _ ⟨1002,og (rdL l a2 d),[]⟩
   cases es with
   |nil=>
    refine SCall.aI (fn:=Go.Proofs.Tryz.f128) (by kernel_rfl) aFc (by kernel_rfl) (by kernel_rfl) (Nat.le_refl _) rfl ((dU (by show 1001<1002;decide) _ _ _)) (by exact tJ _) ?_
    unfold aHp
    repeat apply sQ
    refine WR.reg (WQ.aG [2,3,4] 1000 _ _ _ _ rfl (WQ.aJ ?_))
    repeat apply sQ
    refine WR.reg (WQ.aG [2,3,4] 2 _ _ _ _ rfl ?_)
    refine WQ.c rfl (SCall.fI hw _) .base rfl ?_
    refine WQ.aJ ?_
    repeat apply sQ
    refine WR.aP aZ (DW.m 1000 rfl ?_)
    refine DW.eU pQ rfl rfl rfl rfl rfl (sp.ok ⟨trivial,trivial⟩ trivial (R:=1000) (M:=1001) (by decide) (by decide) (by decide) rfl rfl) (.put .base rfl) rfl (DW.m 1000 rfl ?_)
    refine DW.stS pQ rfl rfl rfl rfl (DW.m 1000 rfl (DW.cC pQ ?_))
    exact WR.ret ⟨rfl,rfl,⟨_,rfl,vQ⟩,tB _ _ _ _ 0 []⟩
   |cons x es=>
    have s:SCall Go.Proofs.Tryz.prog [] 128 [.ptr 1000 0,.str to] none ⟨1002,og (rdL l a d),[]⟩ (.ret (.tup [.sl (1005+es.length) 0 (es.length+1) (.op 11),.int .i64 e])) none ⟨1005+(es.length+1),og (plM l a2 d to (es.length+1) (flE (x::es))),[]⟩:=by
     refine SCall.aI (fn:=Go.Proofs.Tryz.f128) (by kernel_rfl) aFc (by kernel_rfl) (by kernel_rfl) (by omega) (aNv _ _ _ _ _ _) (aFh (by show 1000<_;omega) (by show 1001<_;omega) _ _ _ _ (.inr (by show 1004+_<_;omega)) (vK _)) ⟨(by show 1005+_<_;omega),trivial,trivial⟩ ?_
     unfold aHp
     repeat apply sQ
     refine WR.reg (WQ.aG [2,3,4] 1000 _ _ _ _ rfl (WQ.aJ ?_))
     repeat apply sQ
     refine WR.reg (WQ.aG [2,3,4] 2 _ _ _ _ rfl ?_)
     refine WQ.c rfl (SCall.fI hw _) .base rfl ?_
     refine WQ.aJ ?_
     repeat apply sQ
     refine WR.aP aZ (DW.m 1000 rfl ?_)
     refine DW.eU pQ rfl rfl rfl rfl rfl (sp.ok ⟨trivial,trivial⟩ trivial (R:=1000) (M:=1001) (by decide) (by decide) (by decide) rfl rfl) (.put .base rfl) rfl (DW.m 1000 rfl ?_)
     refine DW.stS pQ rfl rfl rfl rfl (DW.m 1000 rfl (DW.cC pQ ?_))
     exact WR.e
    have hat:og (plM l a2 d to (es.length+1) (flE (x::es))) (1005+es.length)=some (.cells true (flE (x::es))):=rowAt _ (rY (Nat.le_add_right _ _))
    have hmem:∀e'∈jI (x::es),e'.length=11:=by
     rw[gA]
     intro e' he'
     obtain⟨y,_,rfl⟩:=List.mem_map.1 he'
     exact eG y
    have s2:=SCall.freeze (es:=jI (x::es)) (h2:=⟨1005+(es.length+1),og (rdL l a2 d),[]⟩) s hat (by show 1000≤1005+_;omega) (by show 1002≤1005+_;omega) hmem (by rw[gA,List.length_map,List.length_cons]) (Nat.succ_pos _) rfl rfl
     (fun c o hc=>by
      have hlt:c<1002:=by
       have hc:og (rdL l a2 d) c=some o:=hc
       simp only[rdL,aR]at hc
       split at hc
       ·omega
       ·split at hc
        ·omega
        ·cases hc
      exact⟨by omega,by show og (plM _ _ _ _ _ _) c=_;rw[←tB _ _ _ _ _ _ _ hlt];exact hc⟩)
     (fun c hc=>tB _ _ _ _ _ _ _ hc)
    refine SCall.trim s2 rfl (Nat.le_refl _) (fun b hb=>?_) (fun b _=>rfl) (fun b _=>.inr fun o ho=>?_) ?_
    ·exact dR (N:=1002) rfl b hb
    ·exact(eK (dU (D:=(· <1002)) (by show 1001<1002;decide) l a2 d) b o ho).bL
    ·exact(tJ (D:=(· <1002)) (x::es,e)).bL
end Go.VM
end
section
/- Expressions: what stands behind an operand: memory. -/
set_option maxRecDepth 100000
namespace Go.VM
open Go.RowKit
section
variable{P:Program}{gl:List Nat}{fr:Fr}{QN:S→Prop}{QX:X→S→Prop}{l:List RI}{r:RI}{tm tm1:TM}{df:List AD}{u:Option AMode}{nx:Nat}{ol:OL}{lc:LM}
theorem WQ.bNj{ro:RO}{v:V}{ob:Obj}(hr:r.ro=some ro)(hk:Nat.beq (cU ro) 3=false)(hw:aV r.gd tm=some true)(hk1:keysLt ol nx)(ha:aAn gl tm nx ro=some (v,ob))(hp:bB fr.nt tm r.dst (.v v)=some tm1)
  (h:WQ P gl fr l (SL.toS ⟨tm1,df,u,nx+1,ol++[(nx,ob)],lc⟩) QN QX):WQ P gl fr (r::l) (SL.toS ⟨tm,df,u,nx,ol,lc⟩) QN QX:=by
 refine WQ.dM hw (v:=.v v) (nx':=nx+1) (ol':=ol++[(nx,ob)]) (lc':=lc) ?_ hp h
 rw[hr]
 have:=uM (P:=P) (gl:=gl) (nt:=fr.nt) (tm:=tm) (h:=⟨nx,og ol,lc⟩) (nG (wV ha)) hk
 have e:=aLs (nx:=nx) (lc:=lc) ob hk1
 rw[List.append_nil]at e
 rw[e]at this
 exact this
theorem aBe{nt:Nat}{x y:RX}{sz bytes k:Nat}{z:List V}{es fs fs2 es2:List (List V)}{c:LC}(hx:rv gl tm x=some (.lst es (.ex k)))(hk:es.length=k)(hy:rv gl tm y=some (.lst fs c))(hz:∀e∈es,e.length=sz)(hzf:∀e∈fs,e.length=sz)
  (hlim:bytes*(es.length+fs.length)≤lim) (hcl:fs.map (·.map V.bV)=fs2) (hes:es++fs2=es2):DoesR P gl nt tm ⟨nx,og ol,lc⟩ (some (.app x y sz bytes z)) (.v (.lst es2 .unk)) ⟨nx,og ol,lc⟩:=by
 subst hk;subst hcl;subst hes
 intro o hro
 exact⟨aWc (P:=P) (gl:=gl) (nt:=nt) (tm:=tm) (h:=⟨nx,og ol,lc⟩) hro hx hz (.lst fs c hy hzf) hlim,pK hro rfl⟩
theorem aXl{nt:Nat}{x:RX}{opn:Bool}{N n:Nat}{cs:List V}{p:OL}(hp:keysLt p N)(hx:rvt gl tm x=some (.v (.ptr N 0)))(hc:cs.length=n):cG P gl nt tm ⟨nx,og (p++[(N,.cells opn cs)]),lc⟩ (some (.ld x (some n))) (.v (.agg cs)):=by
 subst hc
 refine bJ ?_
 simp only[eM,rl,hx,ldA,rowAt _ hp,kA]
 have:jS cs 0 cs.length=some cs:=qE rfl
 simp[this]
end
def opG(l:List Tz)(a d:Nat)(G:OL):OL:=(1000,rdO 1001 l a d)::(1001,pD)::(1002,aAo)::G
def GOk(G:OL)(N:Nat):Prop:=∀e∈G,1003≤e.1∧e.1<N
theorem GOk.lt{l:List Tz}{a d:Nat}{G:OL}{N:Nat}(h:GOk G N)(hN:1003≤N):keysLt (opG l a d G) N:=by
 intro e he
 simp only[opG,List.mem_cons]at he
 rcases he with rfl|rfl|rfl|he
 ·show 1000<N;omega
 ·show 1001<N;omega
 ·show 1002<N;omega
 ·exact(h e he).2
theorem GOk.more{G:OL}{N:Nat}{o:Obj}(h:GOk G N)(hN:1003≤N):GOk (G++[(N,o)]) (N+1):=by
 intro e he
 rcases List.mem_append.1 he with he|he
 ·have:=h e he;omega
 ·simp only[List.mem_cons,List.not_mem_nil,or_false]at he
  subst he
  exact⟨hN,Nat.lt_succ_self _⟩
theorem GOk.none{G:OL}{N:Nat}(h:GOk G N){b:Nat}(hb:b<1003):og G b=none:=by
 induction G with
 |nil=>rfl
 |cons e G ih=>
  obtain⟨k,o⟩:=e
  have:=h (k,o) (List.mem_cons_self ..)
  rw[aR,if_neg (by omega)]
  exact ih fun e he=>h e (List.mem_cons_of_mem _ he)
theorem aNy(l:List Tz)(a d:Nat){G:OL}{N:Nat}(h:GOk G N)(b:Nat)(hb:b<1002):og (rdL l a d) b=og (opG l a d G) b:=by
 simp only[rdL,opG,aR]
 split
 ·rfl
 ·split
  ·rfl
  ·rw[if_neg (by omega),h.none (by omega)];rfl
theorem aCg{f:FuncId}{l:List Tz}{a d a' d':Nat}{cs cs':List V}{r:AEnd}(core:SCall Go.Proofs.Tryz.prog [] 125 [.ptr 1000 0,.fn (.func f) [] [.ptr 1002 0,.ptr 1003 0]] none ⟨1004,og (mR l a d cs),[]⟩ r none ⟨1004,og (mR l a' d' cs'),[]⟩)(hr:r.In (fun _=>False))
  (hcs:Ins (fun _=>False) cs) (hcs':Ins (fun _=>False) cs') {h:H} {N:Nat} (hN:1003≤N) (h0:h.ob 1000=some (rdO 1001 l a d)) (h1:h.ob 1001=some pD) (h2:h.ob 1002=some aAo) (h3:h.ob N=some (.cells false cs)):
  SCall Go.Proofs.Tryz.prog [] 125 [.ptr 1000 0,.fn (.func f) [] [.ptr 1002 0,.ptr N 0]] none h r none ((h.put 1000 (rdO 1001 l a' d')).put N (.cells false cs')):=by
 have low:∀i,i=1000∨i=1001∨i=1002→ρL [1000,1001,1002,N] h.nxt i=i:=by
  intro i hi
  rcases hi with rfl|rfl|rfl
  ·exact xZ (i:=0) rfl
  ·exact xZ (i:=1) rfl
  ·exact xZ (i:=2) rfl
 have e3:ρL [1000,1001,1002,N] h.nxt 1003=N:=xZ (i:=3) rfl
 have er:∀vs:List V,Ins (fun _=>False) vs→dB (ρL [1000,1001,1002,N] h.nxt) vs=vs:=fun vs hv=>fG (D:=fun _=>False) (fun _ q=>q.elim) hv
 have eb:Obj.ren (ρL [1000,1001,1002,N] h.nxt) aAo=aAo:=by
  simp only[aAo,Obj.ren,dB,V.ren,low 1000 (.inl rfl)]
 have ed:∀x y,Obj.ren (ρL [1000,1001,1002,N] h.nxt) (rdO 1001 l x y)=rdO 1001 l x y:=by
  intro x y;rw[aEh,low 1001 (.inr (.inl rfl))]
 have hin:∀x y (vs:List V),Ins (fun _=>False) vs→gC (· <1004) (mR l x y vs):=fun x y vs hv=>xK (by show 1000<1004;decide) (by show 1001<1004;decide) _ _ _ (hv.mono fun _ q=>q.elim)
 refine SCall.wT (n:=0) [1000,1001,1002,N] rfl core (by simp;omega) (by simp[aC];omega) (fun i=>?_) rfl (fun i c o hi ho=>?_) (hin _ _ _ hcs) ⟨(by show 1000<1004;decide),⟨trivial,trivial,(by show 1002<1004;decide),(by show 1003<1004;decide),trivial⟩,trivial⟩ hr (hin _ _ _ hcs') ?_ rfl rfl (fun i hi=>?_) (fun c hc=>?_)
 ·show(og (mR l a d cs) i).isSome=true↔1000≤i∧i<1004
  simp only[mR,sH,vmL,aR]
  split
  ·simp;omega
  ·split
   ·simp;omega
   ·split
    ·simp;omega
    ·split
     ·simp;omega
     ·simp[og];omega
 ·match i,hi with
  |0,hi=>cases hi;cases ho;rw[ed];exact h0
  |1,hi=>cases hi;cases ho;exact h1
  |2,hi=>cases hi;cases ho;rw[eb];exact h2
  |3,hi=>cases hi;cases ho;simp only[Obj.ren,er _ hcs];exact h3
 ·show [V.ptr (ρL _ _ 1000) 0,V.fn (.func f) [] [V.ptr (ρL _ _ 1002) 0,V.ptr (ρL _ _ 1003) 0]]=_
  rw[low 1000 (.inl rfl),low 1002 (.inr (.inr rfl)),e3]
 ·have hi:i<4:=hi
  match i,hi with
  |0,_=>
   show((h.put 1000 _).put N _).ob 1000=some (Obj.ren _ (rdO 1001 l a' d'))
   rw[ed]
   simp only[H.put];rw[if_neg (by omega)];rfl
  |1,_=>
   show((h.put 1000 _).put N _).ob 1001=some (Obj.ren _ pD)
   simp only[H.put];rw[if_neg (by omega)];exact h1
  |2,_=>
   show((h.put 1000 _).put N _).ob 1002=some (Obj.ren _ aAo)
   rw[eb]
   simp only[H.put];rw[if_neg (by omega)];exact h2
  |3,_=>
   show((h.put 1000 _).put N _).ob N=some (Obj.ren _ (.cells false cs'))
   simp only[Obj.ren,er _ hcs',H.put,if_pos]
 ·have q0:(1000:Nat)≠c:=hc 0 (by show 0<4;decide)
  have q3:N≠c:=hc 3 (by show 3<4;decide)
  simp only[H.put]
  rw[if_neg (fun e=>q3 e.symm),if_neg (fun e=>q0 e.symm)]
end Go.VM
end
section
/- Expressions: what stands behind an operand. -/
set_option maxRecDepth 100000
namespace Go.VM
open Go.RowKit
def bIs:TM:=[(1,.v (.ptr 1002 0)),(2,.l 2 0),(5,.l 5 0)]
def bIj(x:Ex):LM:=[(2,zEx),(5,eA x)]
noncomputable def bNa:Fr:=⟨(Go.Proofs.Tryz.f122).ntmps,none,122⟩
theorem aTj{QN:S→Prop}{QX:X→S→Prop}(l:List Tz)(hl:l.length<20000)(d:Nat)(hd:d≤30)(hel:∀(n:Nat) to a1 r a2,a1<l.length→(fns l n).list to a1 d=.ok r a2→r.1.length≤20000):∀(n:Nat),(∀m,m<n→SpecF l (fns l m))→∀(x:Ex) (a N:Nat) (G:OL),a≤l.length→1003≤N→GOk G N→((fns l n).post x a d).aY=false→
  (∀y a' N' G',(fns l n).post x a d=.ok y a'→1003≤N'→GOk G' N'→∀s,oB Go.Proofs.Tryz.prog Go.Proofs.Tryz.f122 (lK y) 1002 (rdL l a' d) s→QX .ret s)→
  (∀a' d' p c,(fns l n).post x a d=.er a' d' p c→∀N' G',GOk G' N'→∀tm lc,QX (.panic (cV p c)) (SL.toS ⟨tm,[],none,N',opG l a' d' G',lc⟩))→
  WLr Go.Proofs.Tryz.prog [] bNa yM (SL.toS ⟨bIs,[],none,N,opG l a d G,bIj x⟩) QN QX:=by
 intro n
 have hl':l.length<4294967296:=by omega
 induction n with
 |zero=>intro _ x a N G _ _ _ ho;cases ho
 |succ n ih=>
  intro hs x a N G ha hN hG ho hq hp
  obtain⟨xk,xa,xe,xn,xv,⟨xtk,xta,xtp,xtn,xtl⟩,xs⟩:=x
  have hb:(fns l (n+1)).post (.mk xk xa xe xn xv (.mk xtk xta xtp xtn xtl) xs) a d=dI l (fns l n) (.mk xk xa xe xn xv (.mk xtk xta xtp xtn xtl) xs) a d:=rfl
  rw[hb]at ho hq hp
  unfold dI at ho hq hp
  unfold yM
  refine WLr.of ?_
  repeat(first|refine WR.seq ?_|refine WR.block ?_)
  repeat apply sQ
  refine WR.q rfl ?_
  repeat(first|refine WR.seq ?_|refine WR.block ?_)
  repeat apply sQ
  refine WR.m 1 rfl ?_
  refine WQ.c rfl (kC (l:=l) (a:=a) (d:=d) (M:=1001) hl' (by decide) (by decide) (by decide) rfl rfl) .base rfl (WQ.q rfl ?_)
  cases h46:isF l a 4 [46]with
  |true=>
   simp only[h46]at ho hq hp
   have hlt:=bH h46 (by decide)
   repeat apply sQ
   refine WR.aD rfl ?_
   repeat apply sQ
   refine WR.m 5 rfl ?_
   rw[bI (by unfold big;omega)]
   refine WQ.q rfl ?_
   repeat apply sQ
   refine WR.m 1 rfl ?_
   refine WQ.c rfl (rZ (l:=l) (a:=(a+1)) (d:=d) (M:=1001) hl' (by decide) (by decide) (by decide) rfl rfl) .base rfl (WQ.q rfl ?_)
   repeat apply sQ
   refine WR.m 3 rfl ?_
   cases hk:decide ((aA l (a+1)).k=1)with
   |false=>
    simp only[hk]at ho hq hp
    refine WQ.q rfl ?_
    repeat apply sQ
    refine WR.aD rfl ?_
    repeat apply sQ
    refine WR.m 1 rfl ?_
    refine WQ.aL rfl rfl rfl rfl rfl (gZ (l:=l) (a:=(a+1)) (d:=d) (M:=1001) hl' (by decide) (by decide) (by decide) rfl rfl) .base (hp _ _ _ _ rfl _ _ hG _ _)
   |true=>
    simp only[hk]at ho hq hp
    have hlt2:=cP (l:=l) (a:=a+1) (by rw[of_decide_eq_true hk];decide)
    refine WQ.q rfl ?_
    repeat apply sQ
    refine WR.k rfl ?_
    unfold aIh
    repeat apply sQ
    refine WR.m 5 rfl ?_
    rw[bI (by unfold big;omega)]
    refine WQ.q rfl ?_
    refine WR.aP aZ (DW.m 1000 rfl ?_)
    refine DW.stS pQ rfl rfl rfl rfl (DW.m 1000 rfl ?_)
    refine DW.stS pQ rfl rfl rfl rfl (DW.m 1000 rfl ?_)
    refine DW.stS pQ rfl rfl rfl rfl (DW.m 1000 rfl (DW.cC pQ ?_))
    unfold uI
    repeat apply sQ
    refine WR.q rfl ?_
    refine WIr.again (WLr.weak ?_ (ih (fun m hm=>hs m (Nat.lt_succ_of_lt hm)) (.mk 5 xa (aA l (a+1)).e (aA l (a+1)).t 0 zT [.mk xk xa xe xn xv (.mk xtk xta xtp xtn xtl) xs]) (a+1+1) N G (by omega) hN hG ho hq hp))
    refine SW.aM ?_ ?_
    ·exact tQ
    ·refine .cons rfl (.inl rfl) (.cons rfl (.inr ?_) .nil)
     exact cQ
  |false=>
  simp only[h46]at ho hq hp
  refine WR.aO rfl ?_
  repeat apply sQ
  refine WR.m 1 rfl ?_
  refine WQ.c rfl (kC (l:=l) (a:=a) (d:=d) (M:=1001) hl' (by decide) (by decide) (by decide) rfl rfl) .base rfl (WQ.q rfl ?_)
  cases h40:isF l a 4 [40]with
  |true=>
   simp only[h40]at ho hq hp
   have hlt:=bH h40 (by decide)
   have sp:=(hs n (Nat.lt_succ_self _)).list [41] a d hlt hd
   have fw:=(dN l n).list [41] a d hlt
   repeat apply sQ
   refine WR.aD rfl ?_
   repeat apply sQ
   refine WR.m 1 rfl ?_
   cases hy:(fns l n).list [41] a d with
   |out=>rw[hy]at ho;cases ho
   |er a1 d1 p c=>
    rw[hy]at sp hp
    exact WQ.aL rfl rfl rfl rfl rfl (sp.er ⟨trivial,trivial⟩ (R:=1000) (M:=1001) (by decide) (by decide) (by decide) rfl rfl) (.put .base rfl) (hp _ _ _ _ rfl _ _ hG _ _)
   |ok r a1=>
    have hr1:=hel n _ _ _ _ hlt hy
    rw[hy]at sp fw ho hq hp
    have ha1:=(fw _ _ rfl).2 ha
    obtain⟨es,e⟩:=r
    refine WQ.c rfl (sp.ok ⟨trivial,trivial⟩ (tJ _) (R:=1000) (M:=1001) (by decide) (by decide) (by decide) rfl rfl) (.put .base rfl) rfl ?_
    refine WQ.q rfl ?_
    repeat apply sQ
    refine WR.m 4 rfl ?_
    refine WQ.dM rfl (aBe (es2:=jI (.mk xk xa xe xn xv (.mk xtk xta xtp xtn xtl) xs::es)) (fs2:=jI es) rfl rfl rfl (by simp) (by
     rw[gA];intro e' he';obtain⟨y,_,rfl⟩:=List.mem_map.1 he';exact eG y) (by
     show 144*(1+(jI es).length)≤4294967296
     rw[gA,List.length_map]
     have:es.length≤20000:=hr1
     omega) (by rw[gA,List.map_map];exact List.map_congr_left fun y _=>aHv y) rfl) rfl ?_
    refine WQ.q rfl ?_
    unfold uI
    repeat apply sQ
    refine WR.q rfl ?_
    refine WIr.again (WLr.weak ?_ (ih (fun m hm=>hs m (Nat.lt_succ_of_lt hm)) (.mk 6 xa e [] 0 zT (.mk xk xa xe xn xv (.mk xtk xta xtp xtn xtl) xs::es)) a1 N G ha1 hN hG ho hq hp))
    refine SW.aM ?_ ?_
    ·exact tQ
    ·refine .cons rfl (.inl rfl) (.cons rfl (.inr ?_) .nil)
     exact cQ
  |false=>
  simp only[h40]at ho hq hp
  refine WR.aO rfl ?_
  repeat apply sQ
  refine WR.m 1 rfl ?_
  refine WQ.c rfl (kC (l:=l) (a:=a) (d:=d) (M:=1001) hl' (by decide) (by decide) (by decide) rfl rfl) .base rfl (WQ.q rfl ?_)
  cases h91:isF l a 4 [91]with
  |true=>
   simp only[h91]at ho hq hp
   have hlt:=bH h91 (by decide)
   have hz:∀D,Ins D zEx:=fun D=>⟨trivial,trivial,trivial,trivial,trivial,trivial,trivial,trivial,trivial,⟨trivial,trivial⟩,⟨trivial,trivial⟩,trivial⟩
   have wi:=vE (f:=129) hl' hlt hd (F:=(fns l n).expr 1) (fun hd30=>bNd l hl' (a+1) (d+1) _ ((hs n (Nat.lt_succ_self _)).expr 1 (a+1) (d+1) (by decide) (by decide) (by omega) (by omega))) zEx rfl (hz _)
   have fw:Fwd l a (aX l a d ((fns l n).expr 1)):=.within hlt ((dN l n).expr 1 _ _)
   repeat apply sQ
   refine WR.aD rfl ?_
   repeat apply sQ
   refine WR.reg (WQ.bNj rfl rfl rfl (hG.lt hN) rfl rfl (WQ.aJ ?_))
   repeat apply sQ
   refine WR.m 2 rfl ?_
   have hG1:GOk (G++[(N,.cells false zEx)]) (N+1):=hG.more hN
   cases hw:aX l a d ((fns l n).expr 1)with
   |out=>rw[hw]at ho;cases ho
   |er a1 d1 p c=>
    rw[hw]at wi hp
    have sc:=fun h h0 h1 h2 h3=>aCg wi bA (hz _) (hz _) (h:=h) hN h0 h1 h2 h3
    exact WQ.aL rfl rfl rfl rfl rfl (sc _ rfl rfl rfl (rowAt (p:=opG l a d G) _ (hG.lt hN))) (.put (.put .base (ol':=opG l a1 d1 G++[(N,.cells false zEx)]) rfl) (aDv (p:=opG l a1 d1 G) _ _ (hG.lt hN))) (hp _ _ _ _ rfl (N+1) _ hG1 _ _)
   |ok z a1=>
    rw[hw]at wi fw ho hq hp
    have ha1:=(fw _ _ rfl).2 ha
    have sc:=fun h h0 h1 h2 h3=>aCg (r:=.ret (.tup [])) wi trivial (hz _) (iZ z) (h:=h) hN h0 h1 h2 h3
    obtain⟨zk,za,ze,zn,zv,⟨ztk,zta,ztp,ztn,ztl⟩,zs⟩:=z
    refine WQ.c rfl (sc _ rfl rfl rfl (rowAt (p:=opG l a d G) _ (hG.lt hN))) (.put (.put .base (ol':=opG l a1 d G++[(N,.cells false zEx)]) rfl) (aDv (p:=opG l a1 d G) _ _ (hG.lt hN))) rfl ?_
    refine WQ.q rfl ?_
    have hG2:GOk (G++[(N,.cells false (eA (.mk zk za ze zn zv (.mk ztk zta ztp ztn ztl) zs)))]) (N+1):=hG.more hN
    repeat apply sQ
    refine WR.aP aZ (DW.m 3 rfl ?_)
    refine DW.bD rfl (aXl (hG.lt hN) rfl (eG _)) rfl (DW.m 1000 rfl ?_)
    have sp:=qS l a1 d hl' [93]
    have ho:((cH l a1 d [93]).bind fun e a2=>(fns l n).post (.mk 7 xa e [] 0 zT [.mk xk xa xe xn xv (.mk xtk xta xtp xtn xtl) xs,.mk zk za ze zn zv (.mk ztk zta ztp ztn ztl) zs]) a2 d).aY=false:=ho
    cases hm:cH l a1 d [93]with
    |out=>rw[hm]at ho;cases ho
    |er a2 d2 p c=>
     rw[hm]at sp
     simp only[R.bind,hm]at hp
     exact DW.aL pQ rfl rfl rfl rfl rfl (sp.er ⟨trivial,trivial⟩ (R:=1000) (M:=1001) (by decide) (by decide) (by decide) rfl rfl) (.put .base rfl) (hp _ _ _ _ rfl (N+1) _ hG2 _ _)
    |ok e a2=>
     have ha2:a2≤l.length:=(Fwd.dK (l:=l) (a:=a1) (d:=d) (s:=[93]) _ _ hm).2 ha1
     rw[hm]at sp ho
     simp only[R.bind,hm]at hp hq ho
     refine DW.eU pQ rfl rfl rfl rfl rfl (sp.ok ⟨trivial,trivial⟩ trivial (R:=1000) (M:=1001) (by decide) (by decide) (by decide) rfl rfl) (.put .base rfl) rfl (DW.m 1000 rfl ?_)
     refine DW.dM (by repeat(first|exact .nil|refine PendR.bFi rfl ?_|refine PendR.bEy rfl ?_|refine PendR.fZ (aXl (hG.lt hN) rfl rfl) ?_|refine PendR.aYz rfl ?_)) rfl (aBe (es2:=jI [.mk xk xa xe xn xv (.mk xtk xta xtp xtn xtl) xs,.mk zk za ze zn zv (.mk ztk zta ztp ztn ztl) zs]) rfl rfl rfl (by simp) (by simp) (by show 144*2≤4294967296;decide) rfl rfl) rfl (DW.m 1000 rfl ?_)
     refine DW.stS pQ rfl rfl rfl rfl (DW.m 1000 rfl ?_)
     refine DW.stS pQ rfl rfl rfl rfl (DW.m 1000 rfl ?_)
     refine DW.stS pQ rfl rfl rfl rfl (DW.m 1000 rfl (DW.cC pQ ?_))
     unfold uI
     repeat apply sQ
     refine WR.q rfl ?_
     refine WIr.again (WLr.weak ?_ (ih (fun m hm=>hs m (Nat.lt_succ_of_lt hm)) (.mk 7 xa e [] 0 zT [.mk xk xa xe xn xv (.mk xtk xta xtp xtn xtl) xs,.mk zk za ze zn zv (.mk ztk zta ztp ztn ztl) zs]) a2 (N+1) _ ha2 (by omega) hG2 ho hq hp))
     refine SW.aM ?_ ?_
     ·exact tQ
     ·refine .cons rfl (.inl rfl) (.cons rfl (.inr ?_) .nil)
      exact cQ
  |false=>
   simp only[h91]at ho hq hp
   refine WR.aO rfl ?_
   repeat apply sQ
   refine WR.q rfl ?_
   exact WR.ret (hq _ _ N G rfl hN hG _ ⟨rfl,rfl,⟨_,rfl,VLe.refl _⟩,aNy _ _ _ hG⟩)
end Go.VM
end
section
/- Expressions: an operand; all of the reader's functions. -/
set_option maxRecDepth 100000
namespace Go.VM
open Go.RowKit
theorem aTt(l:List Tz):∀(n:Nat) (acc:List Ex) (a d:Nat) (es:List Ex) (a':Nat),(fns l n).elts acc a d=.ok es a'→es.length+a≤acc.length+a'+1:=by
 intro n
 induction n with
 |zero=>intro acc a d es a' h;cases h
 |succ n ih=>
  intro acc a d es a' h
  have h:cZ l (fns l n) acc a d=.ok es a':=h
  unfold cZ at h
  have fw:=(dN l n).expr 1 a d
  cases hy:(fns l n).expr 1 a d with
  |out=>rw[hy]at h;cases h
  |er _ _ _ _=>rw[hy]at h;cases h
  |ok x a1=>
   rw[hy]at h fw
   have:=(fw _ _ rfl).1
   simp only[R.bind]at h
   split at h
   ·have:=ih _ _ _ _ _ h
    simp only[List.length_append,List.length_cons,List.length_nil]at this
    omega
   ·cases h
    simp only[List.length_append,List.length_cons,List.length_nil]
    omega
theorem aUy(l:List Tz)(n:Nat)(to:List Nat)(a d:Nat)(r:List Ex×Int)(a2:Nat)(ha:a<l.length)(h:(fns l n).list to a d=.ok r a2):r.1.length≤l.length+1:=by
 cases n with
 |zero=>cases h
 |succ n=>
  have h:cR l (fns l n) to a d=.ok r a2:=h
  unfold cR at h
  cases hw:aX l a d (eR l (fns l n) to)with
  |out=>rw[hw]at h;cases h
  |er _ _ _ _=>rw[hw]at h;cases h
  |ok es a1=>
   rw[hw]at h
   have hes:es.length≤l.length+1:=by
    unfold aX at hw
    split at hw
    ·cases hw
    ·unfold eR at hw
     split at hw
     ·cases hw;simp
     ·have h1:=aTt l n _ _ _ _ _ hw
      have h2:=((dN l n).elts _ _ _ _ _ hw).2 (by omega)
      simp only[List.length_nil]at h1
      omega
   simp only[R.bind]at h
   cases hm:cH l a1 d to with
   |out=>rw[hm]at h;cases h
   |er _ _ _ _=>rw[hm]at h;cases h
   |ok e a3=>rw[hm]at h;cases h;exact hes
theorem aRh(l:List Tz)(hl:l.length<19999)(n:Nat)(hs:∀m,m≤n→SpecF l (fns l m))(a d:Nat)(ha:a≤l.length)(hd:d≤30):Sp 122 [] l a d lK (dH l (fns l n) a d):=by
 have hl':l.length<4294967296:=by omega
 intro ho
 obtain⟨r,hr⟩:∃r,r=dH l (fns l n) a d:=⟨_,rfl⟩
 rw[←hr]at ho⊢
 unfold dH at hr
 have hz:∀D,Ins D zEx:=fun D=>⟨trivial,trivial,trivial,trivial,trivial,trivial,trivial,trivial,trivial,⟨trivial,trivial⟩,⟨trivial,trivial⟩,trivial⟩
 refine SCall.aI (fn:=Go.Proofs.Tryz.f122) (by kernel_rfl) bHu (by kernel_rfl) (by kernel_rfl) (Nat.le_refl _) rfl ((dU (by show 1001<1002;decide) _ _ _)) (by exact R.isIn (fun _=>cJ) _ _) ?_
 unfold bEp
 repeat apply sQ
 refine WR.reg (WQ.aG [1,4] 1000 _ _ _ _ rfl (WQ.aJ ?_))
 repeat apply sQ
 refine WR.reg (WQ.aG [1,4] 1 _ _ _ _ rfl ?_)
 refine WQ.c rfl (rZ (l:=l) (a:=a) (d:=d) (M:=1001) hl' (by decide) (by decide) (by decide) rfl rfl) .base rfl (WQ.aG [1,4] 1000 _ _ _ _ rfl (WQ.aJ ?_))
 repeat apply sQ
 refine WR.reg (WQ.aG [1,4] 1 _ _ _ _ rfl ?_)
 refine WQ.c rfl (kC (l:=l) (a:=a) (d:=d) (M:=1001) hl' (by decide) (by decide) (by decide) rfl rfl) .base rfl (WQ.aG [1,4] 1000 _ _ _ _ rfl (WQ.aJ ?_))
 cases h33:isF l a 4 [33]with
 |true=>
  simp only[h33]at hr
  have hlt:=bH h33 (by decide)
  have wi:=vE (f:=126) hl' hlt hd (F:=(fns l n).oper) (fun hd30=>bMw l hl' (a+1) (d+1) _ ((hs n (Nat.le_refl _)).oper (a+1) (d+1) (by omega) (by omega))) zEx rfl (hz _)
  repeat apply sQ
  refine WR.aD rfl ?_
  repeat apply sQ
  refine WR.reg (WQ.aG [1,4] 1000 _ _ _ _ rfl (WQ.aJ ?_))
  repeat apply sQ
  refine WR.reg (WQ.aG [1,4] 2 _ _ _ _ rfl ?_)
  cases hw:aX l a d (fns l n).oper with
  |out=>rw[hw]at hr;subst hr;cases ho
  |er a1 d1 p c=>
   rw[hw]at hr wi
   have hr:r=.er a1 d1 p c:=hr
   subst hr
   exact WQ.aL rfl rfl rfl rfl rfl (SCall.fI wi _) .base ⟨rfl,rfl,rfl,eD rfl⟩
  |ok y a1=>
   rw[hw]at hr wi
   obtain⟨yk,ya,ye,yn,yv,⟨ytk,yta,ytp,ytn,ytl⟩,ys⟩:=y
   have hr:r=.ok (.mk 10 (aA l a).a ye [] 0 zT [.mk yk ya ye yn yv (.mk ytk yta ytp ytn ytl) ys]) a1:=hr
   subst hr
   refine WQ.c rfl (SCall.fI wi _) .base rfl ?_
   refine WQ.aG [1,4] 1000 _ _ _ _ rfl (WQ.aJ ?_)
   repeat apply sQ
   refine WR.reg (WQ.aG [1,4] 1000 _ _ _ _ rfl (WQ.aJ ?_))
   refine WR.ret ⟨rfl,rfl,⟨_,rfl,vQ⟩,eD rfl⟩
 |false=>
  simp only[h33]at hr
  have sp:=(hs n (Nat.le_refl _)).prim a d ha hd
  have fw:=(dN l n).prim a d
  repeat apply sQ
  refine WR.k rfl ?_
  repeat apply sQ
  refine WR.reg (WQ.aG [1,4] 1 _ _ _ _ rfl ?_)
  cases hy:(fns l n).prim a d with
  |out=>rw[hy]at hr;subst hr;cases ho
  |er a1 d1 p c=>
   rw[hy]at hr sp
   have hr:r=.er a1 d1 p c:=hr
   subst hr
   exact WQ.aL rfl rfl rfl rfl rfl (sp.er trivial (R:=1000) (M:=1001) (by decide) (by decide) (by decide) rfl rfl) (.put .base rfl) ⟨rfl,rfl,rfl,eD rfl⟩
  |ok x a1=>
   rw[hy]at hr sp fw
   have ha1:=(fw _ _ rfl).2 ha
   have hr:r=(fns l n).post x a1 d:=hr
   have lp:=fun(QN:S→Prop) (QX:X→S→Prop)=>aTj (QN:=QN) (QX:=QX) l (by omega) d hd (fun n to a1 r a2 h1 h2=>Nat.le_trans (aUy l n to a1 d r a2 h1 h2) (by omega)) n (fun m hm=>hs m (Nat.le_of_lt hm)) x a1 1003 [] ha1 (Nat.le_refl _) (fun e he=>by cases he) (by rw[←hr];exact ho)
   obtain⟨xk,xa,xe,xn,xv,⟨xtk,xta,xtp,xtn,xtl⟩,xs⟩:=x
   rw[←hr]at lp
   refine WQ.c rfl (sp.ok trivial (cJ _) (R:=1000) (M:=1001) (by decide) (by decide) (by decide) rfl rfl) (.put .base rfl) rfl ?_
   refine WQ.aG [1,4] 1000 _ _ _ _ rfl (WQ.aJ ?_)
   refine WR.block (WR.loop (WLr.weak (s:=SL.toS ⟨bIs,[],none,1003,opG l a1 d [],bIj (.mk xk xa xe xn xv (.mk xtk xta xtp xtn xtl) xs)⟩) ?_ (lp _ _ (fun y a' N' G' e _ hG s h=>?_) (fun a' d' p c e N' G' hG tm lc=>?_))))
   ·refine SW.aM ?_ ?_
    ·exact tQ
    ·exact lQ
   ·subst e
    exact h
   ·subst e
    exact⟨rfl,rfl,rfl,aNy _ _ _ hG⟩
theorem aZm(l:List Tz)(hl:l.length<19999)(hT:∀t∈l,t.t.length<big):∀n m,m≤n→SpecF l (fns l m):=by
 intro n
 induction n with
 |zero=>
  intro m hm
  have:m=0:=by omega
  subst this
  exact⟨fun _ _ _ _ _ _ _ ho=>(by cases ho),fun _ _ _ _ ho=>(by cases ho),fun _ _ _ _ ho=>(by cases ho),fun _ _ _ _ _ ho=>(by cases ho)⟩
 |succ n ih=>
  intro m hm
  rcases Nat.lt_or_ge n m with h|h
  ·have:m=n+1:=by omega
   subst this
   exact⟨fun lv a d h1 h5 ha hd=>aTd l (by omega) n ih lv a d h1 h5 ha hd,fun a d ha hd=>aRh l hl n ih a d ha hd,fun a d ha hd=>aRq l (by omega) hT (fns l n) (ih n (Nat.le_refl _)) (dN l n) a d ha hd,fun to a d ha hd=>aSe l (by omega) n (fun m hm=>ih m (Nat.le_of_lt hm)) to a d ha hd⟩
  ·exact ih m h
end Go.VM
end
section
/- Expressions: all of it. -/
set_option maxRecDepth 100000
namespace Go.VM
open Go.RowKit
def zX:Ex:=.mk 0 0 0 [] 0 zT []
def dgX(a c:Int):List V:=[.int .i64 a,.int .i64 c]
def paL(xc:List V)(n:Int)(g:List V)(l:List Tz)(a d:Nat):OL:=[(1000,.cells false xc),(1001,.cells false [.int .i64 n]),(1002,.cells false g),(1003,pD),(1004,rdO 1003 l a d)]
theorem aVy{D:Nat→Prop}(h:D 1003){xc g:List V}(hx:Ins D xc)(hg:Ins D g)(n:Int)(l:List Tz)(a d:Nat):gC D (paL xc n g l a d):=⟨hx,⟨trivial,trivial⟩,hg,lV,oP h l a d,trivial⟩
def caps:List V:=[.ptr 1000 0,.ptr 1001 0,.ptr 1002 0]
theorem aUc(xc:List V)(hx:Ins (· <1005) xc)(n p c:Int)(l:List Tz)(a d:Nat):
  SCall Go.Proofs.Tryz.prog [] 115 caps (some .ret) ⟨1005,og (paL xc n (dgX p c) l a d),[]⟩ (.ret (.tup [])) (some .ret) ⟨1005,og (paL xc n (dgX p c) l a d),[]⟩:=by
 refine SCall.wW (fn:=Go.Proofs.Tryz.f115) (by kernel_rfl) aYm (by kernel_rfl) (by kernel_rfl) (Nat.le_refl _) rfl (aVy (by show 1003<1005;decide) hx (by exact⟨trivial,trivial,trivial⟩) _ _ _ _) trivial trivial ?_
 unfold aXo
 repeat apply sQ
 refine WR.reg (WQ.aOp rfl rfl rfl rfl ?_)
 refine WQ.q rfl ?_
 repeat apply sQ
 refine WR.q rfl ?_
 repeat apply sQ
 refine WR.q rfl ?_
 refine WR.aO rfl ?_
 repeat apply sQ
 refine WR.q rfl ?_
 refine WR.k rfl ?_
 exact⟨rfl,rfl,⟨_,rfl,VLe.refl _⟩,fun b _=>rfl⟩
theorem aWk(xc:List V)(hlen:xc.length=11)(n p c p0 c0:Int)(l:List Tz)(a d:Nat):
  SCall Go.Proofs.Tryz.prog [] 115 caps (some (.pan (cV p c))) ⟨1005,og (paL xc n (dgX p0 c0) l a d),[]⟩ (.ret (.tup [])) (some (.pan [⟨.iface 28 (.agg (dgX p c)),true⟩])) ⟨1005,og (paL zEx 0 (dgX p c) l a d),[]⟩:=by
 obtain⟨x0,x1,x2,x3,x4,x5,x6,x7,x8,x9,x10,rfl⟩:=ten hlen
 refine SCall.wW (fn:=Go.Proofs.Tryz.f115) (by kernel_rfl) aYm (by kernel_rfl) (by kernel_rfl) (Nat.le_refl _) rfl (aVy (by show 1003<1005;decide) (by exact⟨trivial,trivial,trivial,trivial,trivial,trivial,trivial,trivial,trivial,⟨trivial,trivial⟩,⟨trivial,trivial⟩,trivial⟩) (by exact⟨trivial,trivial,trivial⟩) _ _ _ _) trivial (fun e he=>by
  rw[List.mem_singleton]at he;subst he;exact⟨trivial,trivial,trivial⟩) ?_
 unfold aXo
 repeat apply sQ
 refine WR.reg (WQ.aOp rfl rfl rfl rfl ?_)
 refine WQ.q rfl ?_
 repeat apply sQ
 refine WR.q rfl ?_
 repeat apply sQ
 refine WR.q rfl ?_
 repeat apply sQ
 refine WR.aD rfl ?_
 refine WR.aP aZ (DW.m 1000 rfl ?_)
 refine DW.stS pQ rfl rfl rfl rfl (DW.m 1000 rfl ?_)
 refine DW.stS pQ rfl rfl rfl rfl (DW.m 1000 rfl ?_)
 refine DW.stS pQ rfl rfl rfl rfl (DW.m 1000 rfl (DW.cC pQ ?_))
 exact⟨rfl,rfl,⟨_,rfl,VLe.refl _⟩,fun b _=>rfl⟩
def exV(r:R Ex):V:=match r with
 |.ok x n=>.tup [lK x,.int .i64 n,.agg (dgX 0 0)]
 |.er _ _ p c=>.tup [lK zX,.int .i64 0,.agg (dgX p c)]
 |.out=>.bool false
theorem aJq{D:Nat→Prop}(r:R Ex):(exV r).In D:=by
 cases r with
 |ok x n=>exact⟨cJ x,trivial,⟨trivial,trivial,trivial⟩,trivial⟩
 |er a d p c=>exact⟨cJ zX,trivial,⟨trivial,trivial,trivial⟩,trivial⟩
 |out=>exact trivial
theorem yG(l:List Tz)(hl:l.length<19999)(hT:∀t∈l,t.t.length<big)(a n:Nat)(ha:a≤l.length)(hn:((fns l n).expr 1 a 0).aY=false):
  SCall Go.Proofs.Tryz.prog [] 112 [lsV l,.int .i64 a] none ⟨1000,og [],[]⟩ (.ret (exV ((fns l n).expr 1 a 0))) none ⟨1000,og [],[]⟩:=by
 have sp:=(aZm l hl hT n n (Nat.le_refl _)).expr 1 a 0 (by decide) (by decide) ha (by decide)
 generalize(fns l n).expr 1 a 0=r at sp hn⊢
 refine SCall.aOt (fn:=Go.Proofs.Tryz.f112) (by kernel_rfl) bHl (by kernel_rfl) (by kernel_rfl) (Nat.le_refl _) rfl trivial (aJq r) ?_
 unfold bEg lsV
 repeat apply sQ
 refine WR.reg (WQ.aG [4,5,6] 1000 _ _ _ _ rfl (WQ.aJ ?_))
 repeat apply sQ
 refine WR.m 1 rfl ?_
 refine WQ.bMl rfl rfl rfl rfl rfl rfl (WQ.aJ ?_)
 repeat apply sQ
 refine WR.m 3 rfl ?_
 refine WQ.muS rfl rfl rfl rfl ?_
 refine WQ.muS rfl rfl rfl rfl ?_
 refine WQ.muS rfl rfl rfl rfl ?_
 refine WQ.muS rfl rfl rfl rfl ?_
 refine WQ.muS rfl rfl rfl rfl ?_
 refine WQ.muS rfl rfl rfl rfl ?_
 refine WQ.aG [7,14] 1000 _ _ _ _ rfl (WQ.aJ ?_)
 repeat apply sQ
 refine WR.m 3 rfl ?_
 rw[show decide ((a:Int)<0)=false from decide_eq_false (by omega)]
 refine WQ.m 4 rfl ?_
 rw[List.length_map]
 rw[show decide ((a:Int)>(l.length:Int))=false from decide_eq_false (by omega)]
 refine WQ.q rfl ?_
 repeat apply sQ
 refine WR.k rfl ?_
 unfold aJm
 repeat apply sQ
 refine WR.m 1 rfl ?_
 cases r with
 |out=>cases hn
 |er a1 d1 p c=>
  refine WQ.aL rfl rfl rfl rfl rfl (sp.er ⟨trivial,trivial⟩ (R:=1004) (M:=1003) (by decide) (by decide) (by decide) rfl rfl) (.put .base rfl) ?_
  refine⟨⟨1005,og (paL zEx 0 (dgX p c) l a1 d1),[]⟩,?_,fun b hb=>?_⟩
  ·exact SLeave.call (Weak.refl _) (aWk zEx rfl 0 p c 0 0 l a1 d1) (SLeave.ret (vs:=[.agg zEx,.int .i64 0,.agg (dgX p c)]) rfl (by
    show VLe (.tup _) (.tup _)
    repeat(first|exact VLe.refl _|exact VLe.unk _ _|refine VLe.tup ?_|refine VLe.agg ?_|exact VLL.nil|refine VLL.cons ?_ ?_)))
  ·simp only[paL,aR]
   repeat rw[if_neg (by omega)]
 |ok x a1=>
  obtain⟨xk,xa,xe,xn,xv,⟨xtk,xta,xtp,xtn,xtl⟩,xs⟩:=x
  refine WQ.c rfl (sp.ok ⟨trivial,trivial⟩ (cJ _) (R:=1004) (M:=1003) (by decide) (by decide) (by decide) rfl rfl) (.put .base rfl) rfl ?_
  refine WQ.q rfl ?_
  repeat apply sQ
  refine WR.aP aZ (DW.m 1000 rfl ?_)
  refine DW.stS pQ rfl rfl rfl rfl (DW.m 1000 rfl ?_)
  refine DW.stS pQ rfl rfl rfl rfl (DW.m 1000 rfl ?_)
  refine DW.stS pQ rfl rfl rfl rfl (DW.m 1000 rfl (DW.cC pQ ?_))
  refine WR.ret ⟨⟨1005,og (paL (eA (.mk xk xa xe xn xv (.mk xtk xta xtp xtn xtl) xs)) a1 (dgX 0 0) l a1 0),[]⟩,?_,fun b hb=>?_⟩
  ·exact SLeave.call (Weak.refl _) (aUc (eA (.mk xk xa xe xn xv (.mk xtk xta xtp xtn xtl) xs)) (iZ _) a1 0 0 l a1 0) (SLeave.ret (vs:=[lK (.mk xk xa xe xn xv (.mk xtk xta xtp xtn xtl) xs),.int .i64 a1,.agg (dgX 0 0)]) rfl (VLe.refl _))
  ·simp only[paL,aR]
   repeat rw[if_neg (by omega)]
end Go.VM
end
section
/- Expressions: a reading ends. -/
set_option maxRecDepth 100000
namespace Go.VM
open Go.RowKit
def Evt{α:Type}(r:Nat→R α):Prop:=∃N v,R.aY v=false∧∀n,N≤n→r n=v
theorem Evt.const{α:Type}(v:R α)(h:v.aY=false):Evt (fun _=>v):=⟨0,v,h,fun _ _=>rfl⟩
theorem Evt.up{α:Type}{r:Nat→R α}(h:Evt (fun n=>r (n+1))):Evt r:=by
 obtain⟨N,v,h1,h2⟩:=h
 refine⟨N+1,v,h1,fun n hn=>?_⟩
 have:r (n-1+1)=v:=h2 (n-1) (by omega)
 rwa[show n-1+1=n by omega]at this
theorem Evt.bind{α β:Type}{r:Nat→R α}{f:Nat→α→Nat→R β}(h:Evt r)(k:∀v a1,(∃n,r n=.ok v a1)→Evt (fun n=>f n v a1)):Evt (fun n=>(r n).bind (f n)):=by
 obtain⟨N,v,h1,h2⟩:=h
 cases v with
 |out=>cases h1
 |er a d p c=>exact⟨N,.er a d p c,rfl,fun n hn=>by show(r n).bind (f n)=_;rw[h2 n hn];rfl⟩
 |ok v a1=>
  obtain⟨M,w,k1,k2⟩:=k v a1 ⟨N,h2 N (Nat.le_refl _)⟩
  refine⟨max N M,w,k1,fun n hn=>?_⟩
  show(r n).bind (f n)=_
  rw[h2 n (by omega)]
  exact k2 n (by omega)
theorem Evt.within{α:Type}{l:List Tz}{a d:Nat}{f:Nat→Nat→Nat→R α}(h:Evt (fun n=>f n (a+1) (d+1))):Evt (fun n=>aX l a d (f n)):=by
 unfold aX
 by_cases h30:d=30
 ·simp only[if_pos h30]
  exact .const _ rfl
 ·simp only[if_neg h30]
  exact h
theorem sI{l:List Tz}{a d:Nat}{s:List Nat}:(cH l a d s).aY=false:=by
 unfold cH
 split<;>rfl
theorem aOe{l:List Tz}{a d:Nat}{s:List Nat}{e:Int}{a1:Nat}(h:cH l a d s=.ok e a1):a1=a+1∧a1≤l.length:=by
 unfold cH at h
 split at h
 ·rename_i hi
  cases h
  exact⟨rfl,bH hi (by decide)⟩
 ·cases h
theorem bCu{l:List Tz}{n:Nat}{to:List Nat}{a d:Nat}{r:List Ex×Int}{a2:Nat}(ha:a<l.length)(h:(fns l n).list to a d=.ok r a2):a<a2∧a2≤l.length:=by
 cases n with
 |zero=>cases h
 |succ n=>
  have fw:=(dN l (n+1)).list to a d ha _ _ h
  have h:cR l (fns l n) to a d=.ok r a2:=h
  unfold cR at h
  cases hw:aX l a d (eR l (fns l n) to)with
  |out=>rw[hw]at h;cases h
  |er _ _ _ _=>rw[hw]at h;cases h
  |ok es a1=>
   rw[hw]at h
   have h1:a≤a1:=by
    unfold aX at hw
    split at hw
    ·cases hw
    ·unfold eR at hw
     split at hw
     ·cases hw;omega
     ·have:=((dN l n).elts _ _ _ _ _ hw).1;omega
   simp only[R.bind]at h
   cases hm:cH l a1 d to with
   |out=>rw[hm]at h;cases h
   |er _ _ _ _=>rw[hm]at h;cases h
   |ok e a3=>
    have:=aOe hm
    rw[hm]at h;cases h
    omega
structure Tot(l:List Tz)(a:Nat):Prop where
 expr:∀lv d,Evt (fun n=>(fns l n).expr lv a d)
 oper:∀d,Evt (fun n=>(fns l n).oper a d)
 prim:∀d,Evt (fun n=>(fns l n).prim a d)
 list:∀to d,a<l.length→Evt (fun n=>(fns l n).list to a d)
 bin:∀lv x d,Evt (fun n=>(fns l n).bin lv x a d)
 post:∀x d,Evt (fun n=>(fns l n).post x a d)
 elts:∀acc d,Evt (fun n=>(fns l n).elts acc a d)
theorem aGd(l:List Tz)(a:Nat)(ha:a≤l.length)(ih:∀a',a<a'→a'≤l.length→Tot l a'):Tot l a:=by
 have bin:∀lv x d,Evt (fun n=>(fns l n).bin lv x a d):=by
  intro lv x d
  refine .up ?_
  show Evt (fun n=>gG l (fns l n) lv x a d)
  unfold gG
  cases hb:oM lv (aA l a)with
  |false=>exact .const _ rfl
  |true=>
   have hb':=hb
   unfold oM at hb'
   simp only[Bool.and_eq_true,decide_eq_true_eq]at hb'
   have:=cP (l:=l) (a:=a) (by rw[hb'.1];decide)
   refine((ih (a+1) (by omega) (by omega)).expr (lv+1) d).bind fun y a2 ⟨n,hn⟩=>?_
   have fw:=(dN l n).expr (lv+1) (a+1) d _ _ hn
   exact(ih a2 (by omega) (fw.2 (by omega))).bin lv _ d
 have list:∀to d,a<l.length→Evt (fun n=>(fns l n).list to a d):=by
  intro to d hlt
  refine .up ?_
  show Evt (fun n=>cR l (fns l n) to a d)
  unfold cR
  refine Evt.bind (Evt.within (f:=fun n=>eR l (fns l n) to) ?_) fun es a1 _=>Evt.bind (r:=fun _=>cH l a1 d to) (.const _ sI) fun e a2 _=>.const _ rfl
  unfold eR
  cases hi:isF l (a+1) 4 to with
  |true=>exact .const _ rfl
  |false=>exact(ih (a+1) (by omega) (by omega)).elts [] (d+1)
 have post:∀x d,Evt (fun n=>(fns l n).post x a d):=by
  intro x d
  refine .up ?_
  show Evt (fun n=>dI l (fns l n) x a d)
  unfold dI
  cases h1:isF l a 4 [46]with
  |true=>
   cases h2:decide ((aA l (a+1)).k=1)with
   |true=>
    have:=cP (l:=l) (a:=a+1) (by rw[of_decide_eq_true h2];decide)
    exact(ih (a+1+1) (by omega) (by omega)).post _ d
   |false=>exact .const _ rfl
  |false=>
   cases h2:isF l a 4 [40]with
   |true=>
    have hlt:=bH h2 (by decide)
    refine(list [41] d hlt).bind fun r a1 ⟨n,hn⟩=>?_
    have:=bCu hlt hn
    exact(ih a1 this.1 this.2).post _ d
   |false=>
    cases h3:isF l a 4 [91]with
    |true=>
     have hlt:=bH h3 (by decide)
     refine Evt.bind (Evt.within (f:=fun n=>(fns l n).expr 1) ((ih (a+1) (by omega) (by omega)).expr 1 (d+1))) fun z a1 ⟨n,hn⟩=>Evt.bind (r:=fun _=>cH l a1 d [93]) (.const _ sI) fun e a2 ⟨_,hm⟩=>?_
     have fw:=Fwd.within (l:=l) (d:=d) hlt ((dN l n).expr 1 (a+1) (d+1)) _ _ hn
     have:=aOe hm
     exact(ih a2 (by omega) this.2).post _ d
    |false=>exact .const _ rfl
 have prim:∀d,Evt (fun n=>(fns l n).prim a d):=by
  intro d
  refine .up ?_
  show Evt (fun n=>dG l (fns l n) a d)
  unfold dG
  cases h1:decide ((aA l a).k=2)with
  |true=>
   refine Evt.bind (r:=fun _=>fV l (aA l a).t a d) (.const _ ?_) fun _ _ _=>.const _ rfl
   unfold fV;split<;>rfl
  |false=>
  cases h2:decide ((aA l a).k=3)with
  |true=>cases aWm (aA l a).t<;>exact .const _ rfl
  |false=>
  cases h3:isF l a 5 aWx with
  |true=>exact .const _ rfl
  |false=>
  cases h4:isF l a 5 aMg with
  |true=>exact .const _ rfl
  |false=>
  cases h5:decide ((aA l a).k=1)with
  |true=>exact .const _ rfl
  |false=>
  cases h6:isF l a 4 [40]with
  |true=>
   have hlt:=bH h6 (by decide)
   exact Evt.bind (Evt.within (f:=fun n=>(fns l n).expr 1) ((ih (a+1) (by omega) (by omega)).expr 1 (d+1))) fun z a1 _=>Evt.bind (r:=fun _=>cH l a1 d [41]) (.const _ sI) fun e a2 _=>.const _ rfl
  |false=>
  cases h7:isF l a 5 bGj with
  |false=>exact .const _ rfl
  |true=>
   show Evt (fun n=>oL l (fns l n) (aA l a).a a d)
   unfold oL
   cases ht:tyF l (a+1)with
   |er _ _ p c=>exact .const _ rfl
   |out=>
    exfalso
    unfold tyF at ht
    split at ht
    ·cases ht
    ·split at ht
     ·cases ht
     ·cases ht
     ·rename_i hb
      unfold cY at hb
      repeat(first|split at hb|cases hb)
   |ok ty a1=>
    have h1:=nO ht
    show Evt (fun n=>match isF l a1 4 [123]with|true=>((fns l n).list [125] a1 d).bind fun r a2=>R.ok (Ex.mk 8 (aA l a).a r.2 [] 0 ty r.1) a2|false=>fD l a1 d 5)
    cases hi:isF l a1 4 [123]with
    |false=>exact .const _ rfl
    |true=>
     have hlt:=bH hi (by decide)
     exact((ih a1 (by omega) h1.2).list [125] d hlt).bind fun _ _ _=>.const _ rfl
 have oper:∀d,Evt (fun n=>(fns l n).oper a d):=by
  intro d
  refine .up ?_
  show Evt (fun n=>dH l (fns l n) a d)
  unfold dH
  cases h1:isF l a 4 [33]with
  |true=>
   have hlt:=bH h1 (by decide)
   exact Evt.bind (Evt.within (f:=fun n=>(fns l n).oper) ((ih (a+1) (by omega) (by omega)).oper (d+1))) fun z a1 _=>.const _ rfl
  |false=>
   refine(prim d).bind fun x a1 ⟨n,hn⟩=>?_
   have fw:=(dN l n).prim a d _ _ hn
   rcases Nat.eq_or_lt_of_le fw.1 with e|e
   ·subst e;exact post x d
   ·exact(ih a1 e (fw.2 ha)).post x d
 have exprB:∀k lv d,5≤lv+k→Evt (fun n=>(fns l n).expr lv a d):=by
  intro k
  induction k with
  |zero=>
   intro lv d hk
   refine .up ?_
   show Evt (fun n=>cX (fns l n) lv a d)
   unfold cX
   rw[show Nat.blt 4 lv=true by rw[Nat.blt_eq];omega]
   exact oper d
  |succ k ihk=>
   intro lv d hk
   refine .up ?_
   show Evt (fun n=>cX (fns l n) lv a d)
   unfold cX
   cases h:Nat.blt 4 lv with
   |true=>exact oper d
   |false=>
    refine(ihk (lv+1) d (by omega)).bind fun x a1 ⟨n,hn⟩=>?_
    have fw:=(dN l n).expr (lv+1) a d _ _ hn
    rcases Nat.eq_or_lt_of_le fw.1 with e|e
    ·subst e;exact bin lv x d
    ·exact(ih a1 e (fw.2 ha)).bin lv x d
 have expr:∀lv d,Evt (fun n=>(fns l n).expr lv a d):=fun lv d=>exprB 5 lv d (by omega)
 refine⟨expr,oper,prim,list,bin,post,fun acc d=>?_⟩
 refine .up ?_
 show Evt (fun n=>cZ l (fns l n) acc a d)
 unfold cZ
 refine(expr 1 d).bind fun x a1 ⟨n,hn⟩=>?_
 have fw:=(dN l n).expr 1 a d _ _ hn
 cases hi:isF l a1 4 [44]with
 |true=>
  have:=bH hi (by decide)
  exact(ih (a1+1) (by omega) (by omega)).elts _ d
 |false=>exact .const _ rfl
theorem tot(l:List Tz):∀k a,l.length≤a+k→a≤l.length→Tot l a:=by
 intro k
 induction k with
 |zero=>intro a h1 h2;exact aGd l a h2 fun a' q1 q2=>by omega
 |succ k ih=>intro a h1 h2;exact aGd l a h2 fun a' q1 q2=>ih a' (by omega) q2
theorem aCf(l:List Tz)(a lv d:Nat)(ha:a≤l.length):∃N v,R.aY v=false∧∀n,N≤n→(fns l n).expr lv a d=v:=(tot l l.length a (by omega) ha).expr lv d
end Go.VM
end
