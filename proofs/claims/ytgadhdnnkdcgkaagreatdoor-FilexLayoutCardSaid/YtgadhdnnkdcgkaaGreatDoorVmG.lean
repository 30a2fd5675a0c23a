/- laid for this seat: VmSl VmSl2 VmSl3 VmSl4 VmMore VmMore2 -/
import Derived.Test.YtgadhdnnkdcgkaaGreatDoorVmF
set_option linter.unusedVariables false
set_option linter.unusedSimpArgs false
section
/- The machine of values: states all of whose objects and variables are listed; operations run on them. -/
namespace Go.VM
open Go.RowKit
abbrev OL:=List (Nat×Obj)
def og:OL→Nat→Option Obj
 |[],_=>none
 |(k,o)::r,n=>match Nat.beq k n with
  |true=>some o
  |false=>og r n
def oset:OL→Nat→Obj→OL
 |[],b,o=>[(b,o)]
 |(k,x)::r,b,o=>match Nat.beq k b with
  |true=>(k,o)::r
  |false=>(k,x)::oset r b o
def aMl:LM→Nat→List V→LM
 |[],d,cs=>[(d,cs)]
 |(k,x)::r,d,cs=>match Nat.beq k d with
  |true=>(k,cs)::r
  |false=>(k,x)::aMl r d cs
theorem aR(k:Nat)(o:Obj)(r:OL)(n:Nat):og ((k,o)::r) n=if n=k then some o else og r n:=by
 simp only[og]
 cases hb:Nat.beq k n with
 |true=>rw[if_pos (Nat.eq_of_beq_eq_true hb).symm]
 |false=>rw[if_neg];rintro rfl;rw[Nat.beq_refl]at hb;cases hb
theorem aMk:∀(l:OL) (b:Nat) (o:Obj) (k:Nat),og (oset l b o) k=if k=b then some o else og l k
 |[],b,o,k=>by simp only[oset,aR]
 |(j,x)::r,b,o,k=>by
  simp only[oset]
  cases hb:Nat.beq j b with
  |true=>
   have:=Nat.eq_of_beq_eq_true hb;subst this
   simp only[aR];split<;>rfl
  |false=>
   have hne:j≠b:=by rintro rfl;rw[Nat.beq_refl]at hb;cases hb
   simp only[aR,aMk r b o k]
   by_cases h1:k=j
   ·rw[if_pos h1,if_neg (by omega),if_pos h1]
   ·rw[if_neg h1,if_neg h1]
theorem aMf:∀(l:LM) (b:Nat) (o:List V) (k:Nat),lg (aMl l b o) k=if k=b then some o else lg l k
 |[],b,o,k=>by simp only[aMl,jM]
 |(j,x)::r,b,o,k=>by
  simp only[aMl]
  cases hb:Nat.beq j b with
  |true=>
   have:=Nat.eq_of_beq_eq_true hb;subst this
   simp only[jM];split<;>rfl
  |false=>
   have hne:j≠b:=by rintro rfl;rw[Nat.beq_refl]at hb;cases hb
   simp only[jM,aMf r b o k]
   by_cases h1:k=j
   ·rw[if_pos h1,if_neg (by omega),if_pos h1]
   ·rw[if_neg h1,if_neg h1]
theorem rM(n:Nat)(l:OL)(lc:LM)(b:Nat)(o:Obj):H.put ⟨n,og l,lc⟩ b o=⟨n,og (oset l b o),lc⟩:=by
 simp only[H.put];congr 1;funext k;rw[aMk]
theorem pG(n:Nat)(l:OL)(lc:LM)(o:Obj):H.new ⟨n,og l,lc⟩ o=⟨n+1,og (oset l n o),lc⟩:=by
 simp only[H.new];congr 1;funext k;rw[aMk]
structure SL where
 tm:TM
 df:List AD
 u:Option AMode
 nxt:Nat
 ol:OL
 lc:LM
def SL.toS(s:SL):S:=⟨s.tm,s.df,s.u,⟨s.nxt,og s.ol,s.lc⟩⟩
def iN:OL→Nat→Obj→Option OL
 |[],b,o=>some [(b,o)]
 |(k,x)::r,b,o=>match Nat.beq k b with
  |true=>some ((k,o)::r)
  |false=>match iN r b o with
   |some l=>some ((k,x)::l)
   |none=>none
theorem gU:∀{l l':OL} {b:Nat} {o:Obj},iN l b o=some l'→l'=oset l b o
 |[],l',b,o,h=>by simp only[iN]at h;cases h;rfl
 |(k,x)::r,l',b,o,h=>by
  simp only[iN]at h
  simp only[oset]
  split at h
  ·rename_i e;cases h;first|rfl|rw[e]
  ·rename_i e
   try rw[e]
   split at h
   ·rename_i l hl;cases h;rw[gU hl]
   ·cases h
def aBv:LM→Nat→List V→Option LM
 |[],d,cs=>some [(d,cs)]
 |(k,x)::r,d,cs=>match Nat.beq k d with
  |true=>some ((k,cs)::r)
  |false=>match aBv r d cs with
   |some l=>some ((k,x)::l)
   |none=>none
theorem zQ:∀{l l':LM} {b:Nat} {o:List V},aBv l b o=some l'→l'=aMl l b o
 |[],l',b,o,h=>by simp only[aBv]at h;cases h;rfl
 |(k,x)::r,l',b,o,h=>by
  simp only[aBv]at h
  simp only[aMl]
  split at h
  ·rename_i e;cases h;first|rfl|rw[e]
  ·rename_i e
   try rw[e]
   split at h
   ·rename_i l hl;cases h;rw[zQ hl]
   ·cases h
def yT(d:Nat):Option TV→Bool
 |some (.l x _)=>Nat.beq x d
 |_=>false
def aYw(full:TM)(d:Nat):TM→Option TM
 |[]=>some []
 |(k,v)::r=>match yT d (tg full k),aYw full d r with
  |true,some r=>some r
  |false,some r=>some ((k,v)::r)
  |_,none=>none
theorem aEb{full:TM}{d:Nat}:∀{tm tm':TM},aYw full d tm=some tm'→tm'=tm.filter fun e=>match tg full e.1 with|some (.l x _)=>!Nat.beq x d|_=>true
 |[],tm',h=>by simp only[aYw]at h;cases h;rfl
 |(k,v)::r,tm',h=>by
  have key:(match tg full k with|some (.l x _)=>!Nat.beq x d|_=>true)=!yT d (tg full k):=by
   unfold yT
   split<;>rfl
  simp only[aYw]at h
  rw[List.filter_cons]
  simp only[key]
  split at h
  ·rename_i r' h1 h2;cases h;rw[h1,←aEb h2];rfl
  ·rename_i r' h1 h2;cases h;rw[h1,←aEb h2];rfl
  ·cases h
def xQ(gl:List Nat)(tm:TM)(h:H):RO→Option TV
 |.cvb _=>none
 |.eq d neg x y=>match rv gl tm x,rv gl tm y with
  |some a,some b=>match eqV d a b with
   |some q=>match neg with
    |true=>some (.v (.bool !q))
    |false=>some (.v (.bool q))
   |none=>none
  |_,_=>none
 |.mkI t x=>match rv gl tm x with
  |some v=>some (.v (.iface t v))
  |none=>none
 |.idxs x i=>match rv gl tm x,(rv gl tm i).bind iP with
  |some (.str s),some i=>match s[i]? with
   |some b=>some (.v (.int .u8 b))
   |none=>none
  |_,_=>none
 |.bld z pl parts=>match rvp gl tm parts with
  |some ps=>match oJ (pl[·]?) z ps with
   |some l=>some (.v (.agg l))
   |none=>none
  |none=>none
 |.lk x k ok z d=>match rl gl tm h (.lk x k ok z d)with
  |some (.v v)=>some (.v v)
  |_=>none
 |ro=>rl gl tm h ro
theorem kI{gl:List Nat}{tm:TM}{h:H}{ro:RO}{v:TV}(e:xQ gl tm h ro=some v):eM gl tm h ro=some v:=by
 unfold xQ at e
 split at e
 ·cases e
 ·rename_i d neg x y
  simp only[eM,rl]
  split at e
  ·rename_i a b ha hb
   rw[ha,hb]
   simp only
   split at e
   ·rename_i q hq
    rw[hq]
    cases neg<;>exact e
   ·cases e
  ·cases e
 ·rename_i t x
  simp only[eM,rl]
  split at e
  ·rename_i w hw;rw[hw];exact e
  ·cases e
 ·rename_i x i
  simp only[eM,rl]
  split at e
  ·rename_i s k hs hi
   rw[hs,hi]
   simp only
   split at e
   ·rename_i b hb;rw[hb];exact e
   ·cases e
  ·cases e
 ·rename_i z pl parts
  simp only[eM,rl]
  split at e
  ·rename_i ps hps
   rw[hps]
   simp only
   split at e
   ·rename_i l hl;rw[hl];exact e
   ·cases e
  ·cases e
 ·rename_i x k ok z d
  simp only[eM]
  split at e
  ·rename_i w hw;rw[hw];exact e
  ·cases e
 ·cases ro<;>first
   |exact e
   |exact(‹∀x,RO.cvb _=RO.cvb x→False› _ rfl).elim
def aKh:V→Option V
 |.bool b=>some (.bool b)
 |.int k n=>some (.int k n)
 |.str s=>some (.str s)
 |.iR=>some .iR
 |.ptr b o=>some (.ptr b o)
 |.lst es _=>some (.lst es .unk)
 |.sl b o n c=>some (.sl b o n c)
 |.fX=>some .fX
 |.map r=>some (.map r)
 |.fn f a c=>some (.fn f a c)
 |.hY=>some .hY
 |.iface t v=>some (.iface t v)
 |.fF=>some .fF
 |.agg _=>none
 |.tup _=>none
theorem aQi{v w:V}(h:aKh v=some w):w=v.bV∧v.aW=true:=by
 cases v<;>simp only[aKh]at h<;>cases h<;>exact⟨rfl,rfl⟩
def yK:List V→Option (List V)
 |[]=>some []
 |v::l=>match aKh v,yK l with
  |some v,some l=>some (v::l)
  |_,_=>none
theorem aBb:∀{l m:List V},yK l=some m→m=l.map V.bV∧l.all V.aW=true
 |[],m,h=>by simp only[yK]at h;cases h;exact⟨rfl,rfl⟩
 |v::l,m,h=>by
  simp only[yK]at h
  split at h
  ·rename_i w k h1 h2
   cases h
   obtain⟨rfl,a⟩:=aQi h1
   obtain⟨rfl,b⟩:=aBb h2
   exact⟨rfl,by simp[a,b]⟩
  ·cases h
def tY(v:V):Option (List V):=
 match v with
 |.agg l=>match l.all V.aW with
  |true=>some l
  |false=>none
 |.tup _=>none
 |.bool b=>some [.bool b]
 |.int k n=>some [.int k n]
 |.str s=>some [.str s]
 |.iR=>some [.iR]
 |.ptr b o=>some [.ptr b o]
 |.lst es c=>some [.lst es c]
 |.sl b o n c=>some [.sl b o n c]
 |.fX=>some [.fX]
 |.map r=>some [.map r]
 |.fn f a c=>some [.fn f a c]
 |.hY=>some [.hY]
 |.iface t v=>some [.iface t v]
 |.fF=>some [.fF]
theorem tV{v:V}{l:List V}(h:tY v=some l):l=v.cells∧v.cells.all V.aW=true:=by
 cases v with
 |agg m=>
  simp only[tY]at h
  split at h
  ·rename_i e;cases h;exact⟨rfl,e⟩
  ·cases h
 |tup m=>simp only[tY]at h;cases h
 |_=>simp only[tY]at h;cases h;exact⟨rfl,rfl⟩
def zC(sz:Nat):Nat→List (Nat×V)→Option (List (List V))
 |_,[]=>some []
 |i,(j,v)::r=>match tY v with
  |some c=>match Nat.beq i j&&Nat.beq c.length sz with
   |true=>match yK c,zC sz (i+1) r with
    |some c,some l=>some (c::l)
    |_,_=>none
   |false=>none
  |none=>none
theorem aAw{sz:Nat}:∀{i:Nat} {ps:List (Nat×V)} {es:List (List V)},zC sz i ps=some es→∃es0,lP sz i ps=some es0∧es=es0.map (·.map V.bV)
 |i,[],es,h=>by simp only[zC]at h;cases h;exact⟨[],rfl,rfl⟩
 |i,(j,v)::r,es,h=>by
  simp only[zC]at h
  split at h
  ·rename_i c hc
   obtain⟨rfl,hall⟩:=tV hc
   split at h
   ·rename_i hq
    split at h
    ·rename_i c2 l h1 h2
     cases h
     obtain⟨rfl,_⟩:=aBb h1
     obtain⟨es0,g1,rfl⟩:=aAw h2
     refine⟨v.cells::es0,?_,rfl⟩
     simp only[lP,hq,hall,Bool.and_self,g1];rfl
    ·cases h
   ·cases h
  ·cases h
def bDl(gl:List Nat)(tm:TM):RO→Option V
 |.bs sz len z parts=>match rvp gl tm parts with
  |some ps=>match zC sz 0 ps with
   |some es=>match Nat.beq es.length len with
    |true=>some (.lst es (.ex len))
    |false=>none
   |none=>none
  |none=>none
 |.csb x=>match rv gl tm x with
  |some (.str bs)=>some (.lst (bs.map fun(n:Nat)=>[V.int .u8 n]) .unk)
  |_=>none
 |_=>none
theorem aFn{gl:List Nat}{tm:TM}{ro:RO}{v:V}(e:bDl gl tm ro=some v):raf gl tm ro=some v:=by
 unfold bDl at e
 split at e
 ·simp only[raf]
  split at e
  ·rename_i ps hps
   rw[hps]
   simp only
   split at e
   ·rename_i es hes
    obtain⟨es0,h1,rfl⟩:=aAw hes
    rw[h1]
    simp only
    rw[List.length_map]at e
    split at e
    ·rename_i hb;rw[hb];exact e
    ·cases e
   ·cases e
  ·cases e
 ·exact e
 ·cases e
def bGx(gl:List Nat)(tm:TM):RO→Option (List V)
 |.al z=>match z.all V.aW with
  |true=>some z
  |false=>none
 |.bx x=>match rv gl tm x with
  |some v=>tY v
  |none=>none
 |_=>none
theorem bDp{gl:List Nat}{tm:TM}{ro:RO}{l:List V}(e:bGx gl tm ro=some l):ral gl tm ro=some l:=by
 unfold bGx at e
 split at e
 ·exact e
 ·simp only[ral]
  split at e
  ·rename_i v hv
   obtain⟨rfl,h⟩:=tV e
   rw[hv];simp only[h]
  ·cases e
 ·cases e
def aAn(gl:List Nat)(tm:TM)(b:Nat):RO→Option (V×Obj)
 |.bx x=>match rv gl tm x with
  |some v=>match tY v with
   |some l=>some (.ptr b 0,.cells false l)
   |none=>none
  |none=>none
 |ro=>rah gl tm b ro
theorem wV{gl:List Nat}{tm:TM}{b:Nat}{ro:RO}{r:V×Obj}(e:aAn gl tm b ro=some r):rah gl tm b ro=some r:=by
 unfold aAn at e
 split at e
 ·simp only[rah]
  split at e
  ·rename_i v hv
   split at e
   ·rename_i l hl
    obtain⟨rfl,h⟩:=tV hl
    rw[hv];simp only[h];exact e
   ·cases e
  ·cases e
 ·exact e
def aIm(gl:List Nat)(tm:TM)(ol:OL)(lc:LM):RO→Option (OL×LM)
 |.st a x n=>match rvt gl tm a,rv gl tm x with
  |some a,some v=>match tY v with
   |some c=>match Nat.beq c.length n with
    |true=>match a with
     |.v (.ptr b o)=>match og ol b,Nat.ble aC b with
      |some (.cells opn cs),true=>match lM cs o c with
       |some cs=>match iN ol b (.cells opn cs)with
        |some ol=>some (ol,lc)
        |none=>none
       |none=>none
      |_,_=>none
     |.l d o=>match lg lc d with
      |some cs=>match lM cs o c with
       |some cs=>match aBv lc d cs with
        |some lc=>some (ol,lc)
        |none=>none
       |none=>none
      |none=>none
     |_=>none
    |false=>none
   |none=>none
  |_,_=>none
 |_=>none
theorem bBf{gl:List Nat}{tm:TM}{n:Nat}{ol ol':OL}{lc lc':LM}{ro:RO}(e:aIm gl tm ol lc ro=some (ol',lc')):∃h',ras gl tm ⟨n,og ol,lc⟩ ro=some h'∧h'.nxt=n∧h'.ob=og ol'∧∀d,lg lc' d=lg h'.lc d:=by
 unfold aIm at e
 split at e
 ·rename_i a x k
  simp only[ras]
  split at e
  ·rename_i av v ha hv
   rw[ha,hv]
   simp only
   split at e
   ·rename_i c hc
    obtain⟨rfl,hall⟩:=tV hc
    split at e
    ·rename_i hk
     have hk':decide (v.cells.length=k)=true:=decide_eq_true (Nat.eq_of_beq_eq_true hk)
     rw[hk',hall]
     simp only[Bool.and_self]
     split at e
     ·rename_i b o
      simp only
      split at e
      ·rename_i opn cs hb hg
       rw[hb,hg]
       simp only
       split at e
       ·rename_i cs2 hp
        split at e
        ·rename_i ol2 hol
         cases e
         rw[hp]
         exact⟨_,rfl,rfl,by simp only[rM,gU hol],fun _=>rfl⟩
        ·cases e
       ·cases e
      ·cases e
     ·rename_i d o
      simp only
      split at e
      ·rename_i cs hl
       rw[hl]
       simp only
       split at e
       ·rename_i cs2 hp
        split at e
        ·rename_i lc2 hlc
         cases e
         rw[hp]
         exact⟨_,rfl,rfl,rfl,fun k=>by rw[zQ hlc,aMf,jM]⟩
        ·cases e
       ·cases e
      ·cases e
     ·cases e
    ·cases e
   ·cases e
  ·cases e
 ·cases e
theorem SW.lcs{gl:List Nat}{fr:Fr}{s1:S}{lc:LM}(h:∀d,lg lc d=lg s1.h.lc d):SW gl fr s1 {s1 with h:={s1.h with lc}}:=by
 refine⟨rfl,fun E F w0 w b tmps df cs st=>⟨E,F,⟨Env.le_refl E,fun _ _=>rfl,Nat.le_refl _,fun _ _ _ _ h _=>h⟩,rfl,?_⟩⟩
 exact⟨st.mr.forget rfl (fun _ _ h=>h) (fun d p cs _ hcs=>by rw[h d];exact hcs),st.tr,st.dr,st.uk,st.fr,st.gl⟩
theorem DoesR.store{P:Program}{gl:List Nat}{nt:Nat}{tm:TM}{n:Nat}{ol ol':OL}{lc lc':LM}{ro:RO}(e:aIm gl tm ol lc ro=some (ol',lc'))(hk:Nat.beq (cU ro) 3=false):DoesR P gl nt tm ⟨n,og ol,lc⟩ (some ro) (.v bG) ⟨n,og ol',lc'⟩:=by
 obtain⟨h',h1,h2,h3,h4⟩:=bBf (n:=n) e
 refine fun o ho=>⟨?_,pK ho hk⟩
 have d:=aGb (P:=P) (nt:=nt) ho h1
 intro E F w0 w tmps m g tr
 obtain⟨E',F',w',nn,v',a1,a2,a3,a4,a5,a6,a7⟩:=d E F w0 w tmps m g tr
 have hh:h'=⟨n,og ol',h'.lc⟩:=by cases h';simp only at h2 h3;rw[h2,h3]
 refine⟨E',F',w',nn,v',a1,a2,?_,a4,a5,?_,a7⟩
 ·rw[hh]at a3;exact⟨a3.le,a3.old,a3.nxt,a3.ghost⟩
 ·rw[hh]at a6
  exact a6.forget rfl (fun _ _ h=>h) (fun d p cs _ hcs=>by rw[h4 d];exact hcs)
def sqS(gl:List Nat)(nt:Nat)(hp:List Nat):Nat→List RI→SL→Option (List RI×SL)
 |0,l,s=>some (l,s)
 |_,[],s=>some ([],s)
 |n+1,r::l,⟨tm,df,u,nx,ol,lc⟩=>match aV r.gd tm with
  |none=>none
  |some false=>match bB nt tm r.dst (.v bG)with
   |some tm=>sqS gl nt hp n l ⟨tm,df,u,nx,ol,lc⟩
   |none=>none
  |some true=>match r.ro with
   |none=>none
   |some ro=>match cU ro with
    |0=>match xQ gl tm ⟨nx,og ol,lc⟩ ro with
     |some v=>match bB nt tm r.dst v with
      |some tm=>sqS gl nt hp n l ⟨tm,df,u,nx,ol,lc⟩
      |none=>none
     |none=>some (r::l,⟨tm,df,u,nx,ol,lc⟩)
    |1=>match r.dst with
     |none=>none
     |some d=>match hp.contains d with
      |true=>match aAn gl tm nx ro with
       |some (v,ob)=>match bB nt tm (some d) (.v v),iN ol nx ob with
        |some tm,some ol=>sqS gl nt hp n l ⟨tm,df,u,nx+1,ol,lc⟩
        |_,_=>none
       |none=>some (r::l,⟨tm,df,u,nx,ol,lc⟩)
      |false=>match bDl gl tm ro with
       |some v=>match bB nt tm (some d) (.v v)with
        |some tm=>sqS gl nt hp n l ⟨tm,df,u,nx,ol,lc⟩
        |none=>none
       |none=>match bGx gl tm ro,Nat.blt d nt with
        |some cs,true=>match aYw tm d tm,aBv lc d cs with
         |some tm,some lc=>sqS gl nt hp n l ⟨(d,.l d 0)::tm,df,u,nx,ol,lc⟩
         |_,_=>none
        |_,_=>match aAn gl tm nx ro with
         |some (v,ob)=>match bB nt tm (some d) (.v v),iN ol nx ob with
          |some tm,some ol=>sqS gl nt hp n l ⟨tm,df,u,nx+1,ol,lc⟩
          |_,_=>none
         |none=>some (r::l,⟨tm,df,u,nx,ol,lc⟩)
    |2=>match aIm gl tm ol lc ro with
     |some (ol,lc)=>match bB nt tm r.dst (.v bG)with
      |some tm=>sqS gl nt hp n l ⟨tm,df,u,nx,ol,lc⟩
      |none=>none
     |none=>some (r::l,⟨tm,df,u,nx,ol,lc⟩)
    |_=>some (r::l,⟨tm,df,u,nx,ol,lc⟩)
section
variable{P:Program}{gl:List Nat}{fr:Fr}{QN:S→Prop}{QX:X→S→Prop}
theorem WQ.aG(hp:List Nat):∀(n:Nat) (l:List RI) (s:SL) (l2:List RI) (s2:SL),sqS gl fr.nt hp n l s=some (l2,s2)→WQ P gl fr l2 s2.toS QN QX→WQ P gl fr l s.toS QN QX
 |0,l,s,l2,s2,h,k=>by simp only[sqS]at h;cases h;exact k
 |n+1,[],s,l2,s2,h,k=>by simp only[sqS]at h;cases h;exact k
 |n+1,r::l,⟨tm,df,u,nx,ol,lc⟩,l2,s2,h,k=>by
  simp only[sqS]at h
  split at h
  ·cases h
  ·rename_i hw
   split at h
   ·rename_i tm1 hput
    obtain⟨x,s',q1,q2⟩:=WQ.aG hp n l _ l2 s2 h k
    exact⟨x,s',.skip hw hput q1,q2⟩
   ·cases h
  ·rename_i hw
   split at h
   ·cases h
   ·rename_i ro hro
    split at h
    ·rename_i hk
     split at h
     ·rename_i v hv
      split at h
      ·rename_i tm1 hput
       exact WQ.fZ (s:=SL.toS ⟨tm,df,u,nx,ol,lc⟩) hro (by rw[hk];rfl) hw (bJ (kI hv)) hput (WQ.aG hp n l _ l2 s2 h k)
      ·cases h
     ·cases h;exact k
    ·rename_i hk
     split at h
     ·cases h
     ·rename_i d hd
      have obj:∀(v:V) (ob:Obj) (tm1:TM) (ol1:OL),aAn gl tm nx ro=some (v,ob)→bB fr.nt tm (some d) (.v v)=some tm1→iN ol nx ob=some ol1→sqS gl fr.nt hp n l ⟨tm1,df,u,nx+1,ol1,lc⟩=some (l2,s2)→WQ P gl fr (r::l) (SL.toS ⟨tm,df,u,nx,ol,lc⟩) QN QX:=by
       intro v ob tm1 ol1 ha hput hol hs
       have:=WQ.aG hp n l _ l2 s2 hs k
       refine WQ.tT (s:=SL.toS ⟨tm,df,u,nx,ol,lc⟩) (h':=(SL.toS ⟨tm,df,u,nx,ol,lc⟩).h.new ob) (v:=.v v) (tm:=tm1) hw (by rw[hro];exact uM (nG (wV ha)) (by rw[hk];rfl)) (by rw[hd];exact hput) ?_
       have e:(SL.toS ⟨tm,df,u,nx,ol,lc⟩).h.new ob=⟨nx+1,og (oset ol nx ob),lc⟩:=pG ..
       rw[e,←gU hol];exact this
      split at h
      ·split at h
       ·rename_i v ob ha
        split at h
        ·rename_i tm1 ol1 hput hol;exact obj v ob tm1 ol1 ha hput hol h
        ·cases h
       ·cases h;exact k
      ·split at h
       ·rename_i v ha
        split at h
        ·rename_i tm1 hput
         exact WQ.tT (s:=SL.toS ⟨tm,df,u,nx,ol,lc⟩) (v:=.v v) (tm:=tm1) hw (by rw[hro];exact zO (mS (aFn ha)) (by rw[hk];rfl)) (by rw[hd];exact hput) (WQ.aG hp n l _ l2 s2 h k)
        ·cases h
       ·split at h
        ·rename_i cs ha hlt
         split at h
         ·rename_i tm1 lc1 htm hlc
          obtain⟨x,s',q1,q2⟩:=WQ.aG hp n l _ l2 s2 h k
          have e1:tm1=tpg tm d:=aEb htm
          subst e1
          have e2:=zQ hlc
          subst e2
          refine⟨x,s',.loc (s:=SL.toS ⟨tm,df,u,nx,ol,lc⟩) (cs:=cs) hw (by rw[hro];exact aIa (bDp ha)) hd hlt ?_ q1,q2⟩
          exact SW.lcs (s1:={(SL.toS ⟨tm,df,u,nx,ol,lc⟩)with tm:=(d,.l d 0)::tpg tm d,h:=⟨nx,og ol,(d,cs)::lc⟩}) (lc:=aMl lc d cs) (fun k=>by rw[aMf];simp only[jM])
         ·cases h
        ·split at h
         ·rename_i v ob ha
          split at h
          ·rename_i tm1 ol1 hput hol;exact obj v ob tm1 ol1 ha hput hol h
          ·cases h
         ·cases h;exact k
    ·rename_i hk
     split at h
     ·rename_i ol2 lc2 ha
      split at h
      ·rename_i tm1 hput
       exact WQ.tT (s:=SL.toS ⟨tm,df,u,nx,ol,lc⟩) (h':=⟨nx,og ol2,lc2⟩) (tm:=tm1) hw (by rw[hro];exact DoesR.store ha (by rw[hk];rfl)) hput (WQ.aG hp n l _ l2 s2 h k)
      ·cases h
     ·cases h;exact k
    ·cases h;exact k
end
end Go.VM
end
section
/- The machine of values: listed states: regions whose order is drawn, calls, functions. -/
namespace Go.VM
open Go.RowKit
def phS(gl:List Nat)(nt:Nat)(hp:List Nat):Nat→List RI→SL→List ER→Option (List RI×SL×List ER)
 |0,l,s,es=>some (l,s,es)
 |_,[],s,es=>some ([],s,es)
 |n+1,r::l,⟨tm,df,u,nx,ol,lc⟩,es=>match aV r.gd (aF tm r.rd)with
  |none=>none
  |some false=>match bB nt tm r.dst (.v bG)with
   |some tm=>phS gl nt hp n l ⟨tm,df,u,nx,ol,lc⟩ es
   |none=>none
  |some true=>match r.ro with
   |none=>none
   |some ro=>match cU ro with
    |0=>match xQ gl (aF tm r.rd) ⟨nx,og ol,lc⟩ ro with
     |some v=>match bB nt tm r.dst v with
      |some tm'=>match aEf ro with
       |true=>phS gl nt hp n l ⟨tm',df,u,nx,ol,lc⟩ es
       |false=>phS gl nt hp n l ⟨tm',df,u,nx,ol,lc⟩ (⟨r.i,some ro,aF tm r.rd,v,⟨nx,og ol,lc⟩⟩::es)
      |none=>none
     |none=>some (r::l,⟨tm,df,u,nx,ol,lc⟩,es)
    |1=>match r.dst with
     |none=>none
     |some d=>match hp.contains d with
      |true=>match aAn gl (aF tm r.rd) nx ro with
       |some (v,ob)=>match bB nt tm (some d) (.v v),iN ol nx ob with
        |some tm,some ol=>phS gl nt hp n l ⟨tm,df,u,nx+1,ol,lc⟩ es
        |_,_=>none
       |none=>some (r::l,⟨tm,df,u,nx,ol,lc⟩,es)
      |false=>match bDl gl (aF tm r.rd) ro with
       |some v=>match bB nt tm (some d) (.v v)with
        |some tm=>phS gl nt hp n l ⟨tm,df,u,nx,ol,lc⟩ es
        |none=>none
       |none=>match aAn gl (aF tm r.rd) nx ro with
        |some (v,ob)=>match bB nt tm (some d) (.v v),iN ol nx ob with
         |some tm,some ol=>phS gl nt hp n l ⟨tm,df,u,nx+1,ol,lc⟩ es
         |_,_=>none
        |none=>some (r::l,⟨tm,df,u,nx,ol,lc⟩,es)
    |_=>some (r::l,⟨tm,df,u,nx,ol,lc⟩,es)
section
variable{P:Program}{gl:List Nat}{fr:Fr}{QN:S→Prop}{QX:X→S→Prop}{ds:List Nat}{anc:Nat}{hs:List (RI×List RI)}
theorem DW.obj{s:S}{es:List ER}{r:RI}{l:List RI}{v:V}{ob:Obj}{tm:TM}(hw:aV r.gd (aF s.tm r.rd)=some true)(ho:uB P gl fr.nt (aF s.tm r.rd) r.ro s.h.nxt ob v)(hp:bB fr.nt s.tm r.dst (.v v)=some tm)
  (h:DW P gl fr ds l anc hs {s with tm,h:=s.h.new ob} es QN QX):DW P gl fr ds (r::l) anc hs s es QN QX:=
 let⟨h1,tm1,es1,x,s',a,b,c,d⟩:=h;⟨h1,tm1,es1,x,s',.obj hw ho hp a,b,c,d⟩
theorem DW.list{s:S}{es:List ER}{r:RI}{l:List RI}{v:V}{tm:TM}(hw:aV r.gd (aF s.tm r.rd)=some true)(ho:tR P gl fr.nt (aF s.tm r.rd) r.ro v)(hp:bB fr.nt s.tm r.dst (.v v)=some tm)
  (h:DW P gl fr ds l anc hs {s with tm} es QN QX):DW P gl fr ds (r::l) anc hs s es QN QX:=
 let⟨h1,tm1,es1,x,s',a,b,c,d⟩:=h;⟨h1,tm1,es1,x,s',.list hw ho hp a,b,c,d⟩
theorem DW.aYk{s:S}{es:List ER}{r:RI}{l:List RI}{tm:TM}(hw:aV r.gd (aF s.tm r.rd)=some false)(hp:bB fr.nt s.tm r.dst (.v bG)=some tm)
  (h:DW P gl fr ds l anc hs {s with tm} es QN QX):DW P gl fr ds (r::l) anc hs s es QN QX:=
 let⟨h1,tm1,es1,x,s',a,b,c,d⟩:=h;⟨h1,tm1,es1,x,s',.skip hw hp a,b,c,d⟩
theorem DW.aG(hp:List Nat):∀(n:Nat) (l:List RI) (s:SL) (es:List ER) (l2:List RI) (s2:SL) (es2:List ER),phS gl fr.nt hp n l s es=some (l2,s2,es2)→DW P gl fr ds l2 anc hs s2.toS es2 QN QX→DW P gl fr ds l anc hs s.toS es QN QX
 |0,l,s,es,l2,s2,es2,h,k=>by simp only[phS]at h;cases h;exact k
 |n+1,[],s,es,l2,s2,es2,h,k=>by simp only[phS]at h;cases h;exact k
 |n+1,r::l,⟨tm,df,u,nx,ol,lc⟩,es,l2,s2,es2,h,k=>by
  simp only[phS]at h
  split at h
  ·cases h
  ·rename_i hw
   split at h
   ·rename_i tm1 hput
    exact DW.aYk (s:=SL.toS ⟨tm,df,u,nx,ol,lc⟩) hw hput (DW.aG hp n l _ _ l2 s2 es2 h k)
   ·cases h
  ·rename_i hw
   split at h
   ·cases h
   ·rename_i ro hro
    split at h
    ·split at h
     ·rename_i v hv
      split at h
      ·rename_i tm1 hput
       split at h
       ·rename_i hpu
        exact DW.pure (s:=SL.toS ⟨tm,df,u,nx,ol,lc⟩) hw (fun h'=>by rw[hro];exact sE hpu (mU (kI hv)).1 h') hput (DW.aG hp n l _ _ l2 s2 es2 h k)
       ·refine DW.fZ (s:=SL.toS ⟨tm,df,u,nx,ol,lc⟩) hw (by rw[hro];exact bJ (kI hv)) hput ?_
        rw[hro]
        exact DW.aG hp n l _ _ l2 s2 es2 h k
      ·cases h
     ·cases h;exact k
    ·split at h
     ·cases h
     ·rename_i d hd
      have obj:∀(v:V) (ob:Obj) (tm1:TM) (ol1:OL),aAn gl (aF tm r.rd) nx ro=some (v,ob)→bB fr.nt tm (some d) (.v v)=some tm1→iN ol nx ob=some ol1→phS gl fr.nt hp n l ⟨tm1,df,u,nx+1,ol1,lc⟩ es=some (l2,s2,es2)→
        DW P gl fr ds (r::l) anc hs (SL.toS ⟨tm,df,u,nx,ol,lc⟩) es QN QX:=by
       intro v ob tm1 ol1 ha hput hol hs2
       have:=DW.aG hp n l _ _ l2 s2 es2 hs2 k
       refine DW.obj (s:=SL.toS ⟨tm,df,u,nx,ol,lc⟩) (ob:=ob) (v:=v) (tm:=tm1) hw (by rw[hro];exact nG (wV ha)) (by rw[hd];exact hput) ?_
       have e:(SL.toS ⟨tm,df,u,nx,ol,lc⟩).h.new ob=⟨nx+1,og (oset ol nx ob),lc⟩:=pG ..
       rw[e,←gU hol];exact this
      split at h
      ·split at h
       ·rename_i v ob ha
        split at h
        ·rename_i tm1 ol1 hput hol;exact obj v ob tm1 ol1 ha hput hol h
        ·cases h
       ·cases h;exact k
      ·split at h
       ·rename_i v ha
        split at h
        ·rename_i tm1 hput
         exact DW.list (s:=SL.toS ⟨tm,df,u,nx,ol,lc⟩) (v:=v) (tm:=tm1) hw (by rw[hro];exact mS (aFn ha)) (by rw[hd];exact hput) (DW.aG hp n l _ _ l2 s2 es2 h k)
        ·cases h
       ·split at h
        ·rename_i v ob ha
         split at h
         ·rename_i tm1 ol1 hput hol;exact obj v ob tm1 ol1 ha hput hol h
         ·cases h
        ·cases h;exact k
    ·cases h;exact k
section
variable{l:List RI}{r:RI}{tm tm1:TM}{df:List AD}{u:Option AMode}{nx:Nat}{ol:OL}{lc:LM}{es:List ER}
theorem WQ.aJ{s:SL}(h:QN s.toS):WQ P gl fr [] s.toS QN QX:=WQ.nil h
theorem WQ.bD{ro:RO}{v:TV}(hr:r.ro=some ro)(hk:Nat.beq (cU ro) 3=false)(hw:aV r.gd tm=some true)(ho:cG P gl fr.nt tm ⟨nx,og ol,lc⟩ (some ro) v)(hp:bB fr.nt tm r.dst v=some tm1)
  (h:WQ P gl fr l (SL.toS ⟨tm1,df,u,nx,ol,lc⟩) QN QX):WQ P gl fr (r::l) (SL.toS ⟨tm,df,u,nx,ol,lc⟩) QN QX:=WQ.fZ (s:=SL.toS ⟨tm,df,u,nx,ol,lc⟩) hr hk hw ho hp h
theorem WQ.dM{v:TV}{nx':Nat}{ol':OL}{lc':LM}(hw:aV r.gd tm=some true)(ho:DoesR P gl fr.nt tm ⟨nx,og ol,lc⟩ r.ro v ⟨nx',og ol',lc'⟩)(hp:bB fr.nt tm r.dst v=some tm1)
  (h:WQ P gl fr l (SL.toS ⟨tm1,df,u,nx',ol',lc'⟩) QN QX):WQ P gl fr (r::l) (SL.toS ⟨tm,df,u,nx,ol,lc⟩) QN QX:=WQ.tT (s:=SL.toS ⟨tm,df,u,nx,ol,lc⟩) hw ho hp h
theorem WQ.aBw{x:RX}{as:List RX}{f:FuncId}{first cap vs ws:List V}{v:V}{nx':Nat}{ol':OL}{u':Option AMode}(hr:r.ro=some (.call x as))(hw:aV r.gd tm=some true)(hx:rv gl tm x=some (.fn (.func f) first cap))(hv:rvs gl tm as=some vs)
  (ha:(first++vs)++cap=ws) (sc:SCall P gl f ws none ⟨nx,og ol,lc⟩ (.ret v) u' ⟨nx',og ol',lc⟩) (hp:bB fr.nt tm r.dst (.v v)=some tm1)
  (h:WQ P gl fr l (SL.toS ⟨tm1,df,u,nx',ol',lc⟩) QN QX):WQ P gl fr (r::l) (SL.toS ⟨tm,df,u,nx,ol,lc⟩) QN QX:=
 WQ.call (s:=SL.toS ⟨tm,df,u,nx,ol,lc⟩) hr hw hx hv ha sc hp h
theorem DW.cC{s:SL}(pd:PendR P gl fr.nt ⟨s.nxt,og s.ol,s.lc⟩ anc es)(h:QN s.toS):DW P gl fr ds [] anc [] s.toS es QN QX:=DW.fin (s:=s.toS) pd h
theorem DW.dM{l2:List RI}{v:TV}{nx':Nat}{ol':OL}{lc':LM}(pd:PendR P gl fr.nt ⟨nx,og ol,lc⟩ anc es)(hw:aV r.gd (aF tm r.rd)=some true)(hop:DoesR P gl fr.nt (aF tm r.rd) ⟨nx,og ol,lc⟩ r.ro v ⟨nx',og ol',lc'⟩)(hp:bB fr.nt tm r.dst v=some tm1)
  (h:DW P gl fr ds l2 r.anc hs (SL.toS ⟨tm1,df,u,nx',ol',lc'⟩) es QN QX):DW P gl fr ds [] anc ((r,l2)::hs) (SL.toS ⟨tm,df,u,nx,ol,lc⟩) es QN QX:=
 DW.tT (s:=SL.toS ⟨tm,df,u,nx,ol,lc⟩) pd hw hop hp h
theorem DW.stS{l2:List RI}{ol':OL}{lc':LM}{a x:RX}{n:Nat}(pd:PendR P gl fr.nt ⟨nx,og ol,lc⟩ anc es)(hr:r.ro=some (.st a x n))(hw:aV r.gd (aF tm r.rd)=some true)(hop:aIm gl (aF tm r.rd) ol lc (.st a x n)=some (ol',lc'))(hp:bB fr.nt tm r.dst (.v bG)=some tm1)
  (h:DW P gl fr ds l2 r.anc hs (SL.toS ⟨tm1,df,u,nx,ol',lc'⟩) es QN QX):DW P gl fr ds [] anc ((r,l2)::hs) (SL.toS ⟨tm,df,u,nx,ol,lc⟩) es QN QX:=
 DW.dM pd hw (by rw[hr];exact DoesR.store hop rfl) hp h
theorem DW.aBw{l2:List RI}{x:RX}{as:List RX}{f:FuncId}{first cap vs ws:List V}{v:V}{nx':Nat}{ol':OL}{u':Option AMode}(pd:PendR P gl fr.nt ⟨nx,og ol,lc⟩ anc es)(hr:r.ro=some (.call x as))(hw:aV r.gd (aF tm r.rd)=some true)
  (hx:rv gl (aF tm r.rd) x=some (.fn (.func f) first cap)) (hv:rvs gl (aF tm r.rd) as=some vs) (ha:(first++vs)++cap=ws) (sc:SCall P gl f ws none ⟨nx,og ol,lc⟩ (.ret v) u' ⟨nx',og ol',lc⟩) (hp:bB fr.nt tm r.dst (.v v)=some tm1)
  (h:DW P gl fr ds l2 r.anc hs (SL.toS ⟨tm1,df,u,nx',ol',lc⟩) es QN QX):DW P gl fr ds [] anc ((r,l2)::hs) (SL.toS ⟨tm,df,u,nx,ol,lc⟩) es QN QX:=
 DW.call (s:=SL.toS ⟨tm,df,u,nx,ol,lc⟩) pd hr hw hx hv ha sc hp h
end
theorem WQ.guard{l:List RI}{s:S}(d:Nat){b:Bool}(hd:tg s.tm d=some (.v (.bool b)))(hT:b=true→WQ P gl fr l s QN QX)(hF:b=false→WQ P gl fr l s QN QX):WQ P gl fr l s QN QX:=by
 cases h:b
 ·exact hF h
 ·exact hT h
theorem DW.guard{l:List RI}{s:S}{es:List ER}(d:Nat){b:Bool}(hd:tg s.tm d=some (.v (.bool b)))(hT:b=true→DW P gl fr ds l anc hs s es QN QX)(hF:b=false→DW P gl fr ds l anc hs s es QN QX):DW P gl fr ds l anc hs s es QN QX:=by
 cases h:b
 ·exact hF h
 ·exact hT h
mutual
theorem V.In.bL{N:Nat}:∀{v:V},v.In (· <N)→RefLt N v
 |.bool b,_=>.bool b
 |.int k n,_=>.int k n
 |.str s,_=>.str s
 |.iR,_=>.iR
 |.ptr b o,h=>.ptr o h
 |.lst es c,h=>.lst (Inss.bL h.1) (fun id e=>by have:=h.2;rw[e]at this;exact this.1)
 |.sl b o n c,h=>.sl h
 |.fX,_=>.fX
 |.map r,h=>.map h
 |.fn (.func f) a c,h=>.fn (Ins.bL h.2.1) (Ins.bL h.2.2)
 |.fn (.yield l) a c,h=>fun E x r=>by cases r with|yld _ p e=>exact .yld l p (gQ e h.1)
 |.fn (.method _) _ _,_=>fun E x r=>by cases r
 |.fn (.methodOf _ _) _ _,_=>fun E x r=>by cases r
 |.fn (.via _ _ _ _) _ _,_=>fun E x r=>by cases r
 |.hY,_=>.hY
 |.iface t v,h=>.iface (V.In.bL (v:=v) h)
 |.fF,_=>.fF
 |.agg l,h=>.agg (Ins.bL h)
 |.tup l,h=>.tup (Ins.bL h)
theorem Ins.bL{N:Nat}:∀{l:List V},Ins (· <N) l→∀v∈l,RefLt N v
 |[],_,v,hv=>by cases hv
 |a::l,h,v,hv=>by
  rcases List.mem_cons.1 hv with e|hv
  ·rw[e];exact V.In.bL h.1
  ·exact Ins.bL h.2 v hv
theorem Inss.bL{N:Nat}:∀{l:List (List V)},Inss (· <N) l→∀e∈l,∀v∈e,RefLt N v
 |[],_,e,he=>by cases he
 |a::l,h,e,he=>by
  rcases List.mem_cons.1 he with q|he
  ·rw[q];exact Ins.bL h.1
  ·exact Inss.bL h.2 e he
end
theorem Obj.In.bL{N:Nat}{o:Obj}(h:o.In (· <N)):iD N o:=by
 intro E p w r
 cases o with
 |cells opn cs=>
  obtain⟨c,el,lo,hi,a1,a2,a3,a4,a5⟩:=r
  refine⟨c,el,lo,hi,a1,a2,a3,a4,fun i v hv=>?_⟩
  obtain⟨b1,v',b2,b3⟩:=a5 i v hv
  exact⟨b1,v',b2,V.In.bL (Ins.get h hv) _ _ b3⟩
 |map es=>
  obtain⟨ents,clock,a1,a2⟩:=r
  refine⟨ents,clock,a1,?_⟩
  have go:∀(es:List (V×V)) (l:List MapEntry),qZ (· <N) es→All₂ (fun(e:V×V) (m:MapEntry)=>AR E e.1 m.key∧AR E e.2 m.val) es l→All₂ (fun(e:V×V) (m:MapEntry)=>AR (E.cut N) e.1 m.key∧AR (E.cut N) e.2 m.val) es l:=by
   intro es
   induction es with
   |nil=>intro l _ r;cases r;exact .nil
   |cons e es ih=>
    intro l hi r
    obtain⟨a,b⟩:=e
    cases r with
    |cons r t=>exact .cons ⟨V.In.bL hi.1.1 _ _ r.1,V.In.bL hi.1.2 _ _ r.2⟩ (ih _ hi.2 t)
  exact go es _ h a2
 |loop l=>exact h.elim
 |dfr c=>exact h.elim
 |siter s pos=>exact r
 |tok n=>exact r
def olB(N:Nat):OL→Bool
 |[]=>true
 |(k,_)::r=>Nat.blt k N&&olB N r
theorem dR{N:Nat}:∀{l:OL},olB N l=true→∀b,N≤b→og l b=none
 |[],_,b,_=>rfl
 |(k,o)::r,h,b,hb=>by
  simp only[olB,Bool.and_eq_true,Nat.blt_eq]at h
  rw[aR,if_neg (by omega)]
  exact dR h.2 b hb
def gC(D:Nat→Prop):OL→Prop
 |[]=>True
 |(_,o)::r=>o.In D∧gC D r
theorem eK{D:Nat→Prop}:∀{l:OL},gC D l→∀b o,og l b=some o→o.In D
 |[],_,b,o,h=>by cases h
 |(k,x)::r,hi,b,o,h=>by
  rw[aR]at h
  split at h
  ·cases h;exact hi.1
  ·exact eK hi.2 b o h
def oB(P:Program)(fn:Func)(v:V)(nx':Nat)(ol':OL)(s':S):Prop:=
 s'.df=[]∧s'.u=none∧(∃vs,rU P s'.h s'.tm fn.results.toList=some vs∧VLe (aDu vs) v)∧(∀b,b<nx'→og ol' b=s'.h.ob b)
theorem SCall.listed{f:FuncId}{fn:Func}{rc:RC}{args:List V}{nx nx':Nat}{ol ol':OL}{v:V}(hfn:P.funcs[f]? =some fn)(hb:fn.body.bind (aE P)=some rc)(hname:(fn.name== "runtime.NumGoroutine")=false)
  (hle:Nat.ble args.length fn.ntmps=true) (hn:nx≤nx') (hol:olB nx' ol'=true) (hin:gC (· <nx') ol') (hv:v.In (· <nx'))
  (hw:WR P gl ⟨fn.ntmps,none,f⟩ rc (SL.toS ⟨kV 0 args,[],none,nx,ol,[]⟩) (oB P fn v nx' ol') (aAc (oB P fn v nx' ol'))):
  SCall P gl f args none ⟨nx,og ol,[]⟩ (.ret v) none ⟨nx',og ol',[]⟩:=by
 refine SCall.bNg hfn hb hname hle rfl hn (fun _=>dR hol) fun _=>?_
 have up:∀s',oB P fn v nx' ol' s'→Ret P fn args gl ⟨nx,og ol,[]⟩ v ⟨nx',og ol',[]⟩ s':=by
  intro s' ⟨a,b,c,d⟩
  refine⟨a,b,c,d,fun _=>⟨fun k hk=>.inr fun o ho=>?_,hv.bL⟩⟩
  rw[←d k hk]at ho
  exact(eK hin k o ho).bL
 refine WR.mono hw up fun x s' hx=>?_
 cases x with
 |ret=>exact up s' hx
 |_=>exact hx.elim
end
mutual
theorem V.rK{ρ:Nat→Nat}{D:Nat→Prop}(hρ:∀i,D i→ρ i=i):∀{v:V},v.In D→v.ren ρ=v
 |.bool b,_=>rfl
 |.int k n,_=>rfl
 |.str s,_=>rfl
 |.iR,_=>rfl
 |.ptr b o,h=>by simp only[V.ren];rw[hρ b h]
 |.lst es c,h=>by
  simp only[V.ren]
  rw[aIo hρ h.1]
  congr 1
  cases c with
  |tk id=>simp only[LC.ren];rw[hρ id h.2.1]
  |_=>rfl
 |.sl b o n c,h=>by simp only[V.ren];rw[hρ b h]
 |.fX,_=>rfl
 |.map r,h=>by simp only[V.ren];rw[hρ r h]
 |.fn f a c,h=>by
  simp only[V.ren]
  rw[fG hρ h.2.1,fG hρ h.2.2]
  congr 1
  cases f with
  |yield l=>simp only[vV];rw[hρ l h.1]
  |_=>rfl
 |.hY,_=>rfl
 |.iface t v,h=>by simp only[V.ren];rw[V.rK hρ (v:=v) h]
 |.fF,_=>rfl
 |.agg l,h=>by simp only[V.ren];rw[fG hρ h]
 |.tup l,h=>by simp only[V.ren];rw[fG hρ h]
theorem fG{ρ:Nat→Nat}{D:Nat→Prop}(hρ:∀i,D i→ρ i=i):∀{l:List V},Ins D l→dB ρ l=l
 |[],_=>rfl
 |v::l,h=>by simp only[dB];rw[V.rK hρ h.1,fG hρ h.2]
theorem aIo{ρ:Nat→Nat}{D:Nat→Prop}(hρ:∀i,D i→ρ i=i):∀{l:List (List V)},Inss D l→nL ρ l=l
 |[],_=>rfl
 |v::l,h=>by simp only[nL];rw[fG hρ h.1,aIo hρ h.2]
end
mutual
theorem V.In.mono{D D':Nat→Prop}(h:∀i,D i→D' i):∀{v:V},v.In D→v.In D'
 |.bool b,_=>trivial
 |.int k n,_=>trivial
 |.str s,_=>trivial
 |.iR,_=>trivial
 |.ptr b o,k=>h b k
 |.lst es c,k=>⟨Inss.mono h k.1,by
  cases c with
  |tk id=>exact⟨h id k.2.1,k.2.2⟩
  |_=>trivial⟩
 |.sl b o n c,k=>h b k
 |.fX,_=>trivial
 |.map r,k=>h r k
 |.fn f a c,k=>⟨by cases f with|yield l=>exact h l k.1|_=>trivial,Ins.mono h k.2.1,Ins.mono h k.2.2⟩
 |.hY,_=>trivial
 |.iface t v,k=>V.In.mono (v:=v) h k
 |.fF,_=>trivial
 |.agg l,k=>Ins.mono (l:=l) h k
 |.tup l,k=>Ins.mono (l:=l) h k
theorem Ins.mono{D D':Nat→Prop}(h:∀i,D i→D' i):∀{l:List V},Ins D l→Ins D' l
 |[],_=>trivial
 |v::l,k=>⟨V.In.mono h k.1,Ins.mono h k.2⟩
theorem Inss.mono{D D':Nat→Prop}(h:∀i,D i→D' i):∀{l:List (List V)},Inss D l→Inss D' l
 |[],_=>trivial
 |v::l,k=>⟨Ins.mono h k.1,Inss.mono h k.2⟩
end
theorem SCall.fL{P:Program}{gl:List Nat}{f:FuncId}{args:List V}{v:V}(hgl:gl.all (Nat.blt · aC)=true)(core:SCall P gl f args none ⟨aC,og [],[]⟩ (.ret v) none ⟨aC,og [],[]⟩)(ha:Ins (· <aC) args)(hv:v.In (· <aC))(h:H):
  SCall P gl f args none h (.ret v) none h:=by
 refine SCall.known rfl core.fn fun bg=>?_
 obtain⟨E,F,w0,w,args',bg⟩:=bg
 let ρ:Nat→Nat:=fun i=>if i<aC then i else h.nxt+(i-aC)
 have hρ:∀i,i<aC→ρ i=i:=fun i hi=>by simp only[ρ];rw[if_pos hi]
 refine SCall.frame (ρ:=ρ) hgl core (fun _=>?_) (Ins.mono (fun i hi=>.inl hi) ha) (hv.mono fun i hi=>.inl hi) (fun i o hi=>by cases hi) (fG hρ ha) (V.rK hρ hv) ?_
 ·exact⟨hρ,fun i h1 h2=>absurd h2 (Nat.not_lt.2 h1),(fun i hi=>by simp only[ρ];rw[if_neg (Nat.not_lt.2 hi)]),(fun i j _ _ hi=>by cases hi),Nat.le_refl _,fun _ _=>rfl,(fun i o hi=>by cases hi),(fun i o hi=>by cases hi)⟩
 ·have hob:(mrg ρ ⟨aC,og [],[]⟩ h ⟨aC,og [],[]⟩).ob=h.ob:=by
   funext b
   simp only[mrg]
   split
   ·rename_i i hi
    obtain⟨h1,h2⟩:=eH hi
    have h1:aC≤i:=by
     rcases h1 with h1|h1
     ·cases h1
     ·exact h1
    have:b=h.nxt+(i-aC):=by rw[←h2];simp only[ρ];rw[if_neg (Nat.not_lt.2 h1)]
    rw[show(og [] i:Option Obj)=none from rfl]
    exact((bg.mr.fresh b (by omega)).2.1).symm
   ·rfl
  cases h with
  |mk nx ob lc=>simp only[mrg,Nat.sub_self,Nat.add_zero]at hob⊢;rw[hob]
end Go.VM
end
section
/- The machine of values: listed states: appending, memory's forms, the frame for listed objects. -/
namespace Go.VM
open Go.RowKit
inductive HL:H→Nat→OL→LM→Prop where
 |base {nx:Nat} {ol:OL} {lc:LM}:HL ⟨nx,og ol,lc⟩ nx ol lc
 |put {h:H} {nx b:Nat} {ol ol':OL} {lc:LM} {o:Obj} (k:HL h nx ol lc) (e:iN ol b o=some ol'):HL (h.put b o) nx ol' lc
 |new {h:H} {nx:Nat} {ol ol':OL} {lc:LM} {o:Obj} (k:HL h nx ol lc) (e:iN ol nx o=some ol'):HL (h.new o) (nx+1) ol' lc
theorem HL.eq{h:H}{nx:Nat}{ol:OL}{lc:LM}(k:HL h nx ol lc):h=⟨nx,og ol,lc⟩:=by
 induction k with
 |base=>rfl
 |put k e ih=>rw[ih,rM,gU e]
 |new k e ih=>rw[ih,pG,gU e]
section
variable{P:Program}{gl:List Nat}{fr:Fr}{QN:S→Prop}{QX:X→S→Prop}{ds:List Nat}{anc:Nat}{hs:List (RI×List RI)}{l:List RI}{r:RI}{tm tm1:TM}{df:List AD}{u:Option AMode}{nx:Nat}{ol:OL}{lc:LM}{es:List ER}
theorem WQ.eU{x:RX}{as:List RX}{f:FuncId}{first cap vs ws:List V}{v:V}{h':H}{nx':Nat}{ol':OL}{u':Option AMode}(hr:r.ro=some (.call x as))(hw:aV r.gd tm=some true)(hx:rv gl tm x=some (.fn (.func f) first cap))(hv:rvs gl tm as=some vs)
  (ha:(first++vs)++cap=ws) (sc:SCall P gl f ws none ⟨nx,og ol,lc⟩ (.ret v) u' h') (hl:HL h' nx' ol' lc) (hp:bB fr.nt tm r.dst (.v v)=some tm1)
  (h:WQ P gl fr l (SL.toS ⟨tm1,df,u,nx',ol',lc⟩) QN QX):WQ P gl fr (r::l) (SL.toS ⟨tm,df,u,nx,ol,lc⟩) QN QX:=by
 rw[hl.eq]at sc;exact WQ.aBw hr hw hx hv ha sc hp h
theorem DW.eU{l2:List RI}{x:RX}{as:List RX}{f:FuncId}{first cap vs ws:List V}{v:V}{h':H}{nx':Nat}{ol':OL}{u':Option AMode}(pd:PendR P gl fr.nt ⟨nx,og ol,lc⟩ anc es)(hr:r.ro=some (.call x as))(hw:aV r.gd (aF tm r.rd)=some true)
  (hx:rv gl (aF tm r.rd) x=some (.fn (.func f) first cap)) (hv:rvs gl (aF tm r.rd) as=some vs) (ha:(first++vs)++cap=ws) (sc:SCall P gl f ws none ⟨nx,og ol,lc⟩ (.ret v) u' h') (hl:HL h' nx' ol' lc) (hp:bB fr.nt tm r.dst (.v v)=some tm1)
  (h:DW P gl fr ds l2 r.anc hs (SL.toS ⟨tm1,df,u,nx',ol',lc⟩) es QN QX):DW P gl fr ds [] anc ((r,l2)::hs) (SL.toS ⟨tm,df,u,nx,ol,lc⟩) es QN QX:=by
 rw[hl.eq]at sc;exact DW.aBw pd hr hw hx hv ha sc hp h
theorem jD{nt:Nat}{x y:RX}{sz bytes id n n2:Nat}{z:List V}{es fs fs2 es2:List (List V)}{c:LC}{ol':OL}(hx:rv gl tm x=some (.lst es (.tk id)))(hy:rv gl tm y=some (.lst fs c))(hid:og ol id=some (.tok n))(hn:n=es.length)(hz:∀e∈es,e.length=sz)(hzf:∀e∈fs,e.length=sz)
  (hlim:bytes*(es.length+fs.length)≤lim) (hcl:fs.map (·.map V.bV)=fs2) (hes:es++fs2=es2) (hn2:n2=es.length+fs.length) (ho:iN ol id (.tok n2)=some ol'):
  DoesR P gl nt tm ⟨nx,og ol,lc⟩ (some (.app x y sz bytes z)) (.v (.lst es2 (.tk id))) ⟨nx,og ol',lc⟩:=by
 subst hn;subst hcl;subst hes;subst hn2
 rw[gU ho]
 intro o hro
 refine⟨?_,pK hro rfl⟩
 have:=bGy (P:=P) (gl:=gl) (nt:=nt) (tm:=tm) (h:=⟨nx,og ol,lc⟩) hro hx hid hz (.lst fs c hy hzf) hlim
 rw[rM]at this
 exact this
theorem iU{nt:Nat}{x y:RX}{sz bytes k n2:Nat}{z:List V}{es fs fs2 es2:List (List V)}{c:LC}{ol':OL}(hx:rv gl tm x=some (.lst es (.ex k)))(hy:rv gl tm y=some (.lst fs c))(hk:k<es.length+fs.length)(hz:∀e∈es,e.length=sz)(hzf:∀e∈fs,e.length=sz)
  (hlim:bytes*(es.length+fs.length)≤lim) (hcl:fs.map (·.map V.bV)=fs2) (hes:es++fs2=es2) (hn2:n2=es.length+fs.length) (ho:iN ol nx (.tok n2)=some ol'):
  DoesR P gl nt tm ⟨nx,og ol,lc⟩ (some (.app x y sz bytes z)) (.v (.lst es2 (.tk nx))) ⟨nx+1,og ol',lc⟩:=by
 subst hcl;subst hes;subst hn2
 rw[gU ho]
 intro o hro
 refine⟨?_,pK hro rfl⟩
 have:=bFl (P:=P) (gl:=gl) (nt:=nt) (tm:=tm) (h:=⟨nx,og ol,lc⟩) hro hx hz (.lst fs c hy hzf) hk hlim
 rw[pG]at this
 exact this
end
def HW(h1 h2:H):Prop:=∀(E:Env) (F:Fx) (w0 w:World),MR E F h1 w0 w→∃E',Ext E h1 E' h2∧MR E' F h2 w0 w
theorem HW.refl(h:H):HW h h:=fun E F w0 w m=>⟨E,Ext.refl _ _,m⟩
theorem HW.trans{a b c:H}(h:HW a b)(k:HW b c):HW a c:=fun E F w0 w m=>by
 obtain⟨E1,x1,m1⟩:=h E F w0 w m
 obtain⟨E2,x2,m2⟩:=k E1 F w0 w m1
 exact⟨E2,x1.trans x2,m2⟩
theorem HW.tok(h:H):HW h (h.new (.tok 0)):=fun E F w0 w m=>by
 obtain⟨m1,x,_,_⟩:=m.ghost (.tok 0) (fun n e=>by cases e;rfl)
 exact⟨E,x,m1⟩
end Go.VM
end
section
/- The machine of values: the frame for listed objects. -/
namespace Go.VM
open Go.RowKit
def ρL(bs:List Nat)(nx:Nat)(i:Nat):Nat:=if i<aC then i else match bs[i-aC]? with|some b=>b|none=>nx+(i-aC-bs.length)
theorem aJz{bs:List Nat}{nx i:Nat}(h:i<aC):ρL bs nx i=i:=by unfold ρL;rw[if_pos h]
theorem xZ{bs:List Nat}{nx i b:Nat}(h:bs[i]? =some b):ρL bs nx (aC+i)=b:=by
 unfold ρL;rw[if_neg (by omega),Nat.add_sub_cancel_left,h]
theorem oD{bs:List Nat}{nx i:Nat}(h:aC+bs.length≤i):ρL bs nx i=nx+(i-(aC+bs.length)):=by
 unfold ρL;rw[if_neg (by omega),List.getElem?_eq_none (by omega)];simp only;omega
theorem SCall.aLm{P:Program}{gl:List Nat}{f:FuncId}{args args2:List V}{v v2:V}{ol ol':OL}{n:Nat}{h h':H}(bs:List Nat)(hgl:gl.all (Nat.blt · aC)=true)
  (core:SCall P gl f args none ⟨aC+bs.length,og ol,[]⟩ (.ret v) none ⟨aC+bs.length+n,og ol',[]⟩)
  (hnd:bs.Nodup) (hbig:∀b∈bs,aC≤b) (hol:∀i,(og ol i).isSome=true↔aC≤i∧i<aC+bs.length) (hol':olB (aC+bs.length+n) ol'=true)
  (hobj:∀(i:Nat) (b:Nat) (o:Obj),bs[i]? =some b→og ol (aC+i)=some o→h.ob b=some (o.ren (ρL bs h.nxt)))
  (hin:gC (· <aC+bs.length) ol) (hargs:Ins (· <aC+bs.length) args) (hv:v.In (· <aC+bs.length+n)) (hin':gC (· <aC+bs.length+n) ol')
  (ha:dB (ρL bs h.nxt) args=args2) (hr:v.ren (ρL bs h.nxt)=v2) (hlc:h'.lc=h.lc) (hnx:h'.nxt=h.nxt+n)
  (hfoot:∀i,i<bs.length+n→h'.ob (ρL bs h.nxt (aC+i))=(og ol' (aC+i)).map (Obj.ren (ρL bs h.nxt)))
  (hrest:∀b,(∀i,i<bs.length+n→ρL bs h.nxt (aC+i)≠b)→h'.ob b=h.ob b):SCall P gl f args2 none h (.ret v2) none h':=by
 refine SCall.known hlc core.fn fun bg=>?_
 obtain⟨E,F,w0,w,args',bg⟩:=bg
 have hD:∀i,i<aC+bs.length→i<aC∨(og ol i).isSome=true:=by
  intro i hi
  rcases Nat.lt_or_ge i aC with g|g
  ·exact .inl g
  ·exact .inr ((hol i).2 ⟨g,hi⟩)
 have hDO:∀i,i<aC+bs.length+n→wL ⟨aC+bs.length,og ol,[]⟩ i:=by
  intro i hi
  rcases Nat.lt_or_ge i (aC+bs.length)with g|g
  ·rcases hD i g with q|q
   ·exact .inl q
   ·exact .inr (.inl q)
  ·exact .inr (.inr g)
 have at_:∀i,aC≤i→i<aC+bs.length→∃b,bs[i-aC]? =some b∧ρL bs h.nxt i=b:=by
  intro i h1 h2
  have:i-aC<bs.length:=by omega
  refine⟨bs[i-aC],List.getElem?_eq_getElem this,?_⟩
  have:=xZ (nx:=h.nxt) (List.getElem?_eq_getElem this)
  rwa[show aC+(i-aC)=i by omega]at this
 refine SCall.frame (ρ:=ρL bs h.nxt) hgl core (fun _=>?_) (Ins.mono hD hargs) (hv.mono hDO) (fun i o hi=>?_) ha hr ?_
 ·refine⟨fun i hi=>aJz hi,fun i h1 h2=>?_,fun i hi=>oD hi,fun i j hi hj hi' hj' e=>?_,Nat.le_add_right _ _,fun i hi=>?_,fun i o hi=>?_,fun i o hi=>?_⟩
  ·obtain⟨b,g1,g2⟩:=at_ i h1 h2
   rw[g2];exact hbig b (List.mem_of_getElem? g1)
  ·obtain⟨b,g1,g2⟩:=at_ i ((hol i).1 hi').1 hi
   obtain⟨c,k1,k2⟩:=at_ j ((hol j).1 hj').1 hj
   rw[g2,k2]at e
   subst e
   have:=(List.getElem?_inj (by
    have h2:i-aC<bs.length:=(List.getElem?_eq_some_iff.1 g1).1
    exact h2) hnd).1 (g1.trans k1.symm)
   have:=((hol i).1 hi').1
   have:=((hol j).1 hj').1
   omega
  ·cases hq:og ol i with
   |none=>exact hq
   |some o=>
    have:=((hol i).1 (by rw[hq];rfl)).2
    have hi':aC+bs.length≤i:=hi
    omega
  ·have hi':og ol i=some o:=hi
   obtain⟨g1,g2⟩:=(hol i).1 (by rw[hi'];rfl)
   obtain⟨b,k1,k2⟩:=at_ i g1 g2
   rw[k2]
   refine hobj (i-aC) b o k1 ?_
   rw[show aC+(i-aC)=i by omega];exact hi'
  ·have:=eK hin i o hi
   cases o with
   |cells op cs=>exact Ins.mono hD this
   |map es=>
    have go:∀es:List (V×V),qZ (· <aC+bs.length) es→qZ (fun j=>j<aC∨(og ol j).isSome=true) es:=by
     intro es
     induction es with
     |nil=>intro _;trivial
     |cons e es ih=>intro hh;obtain⟨a,b⟩:=e;exact⟨⟨hh.1.1.mono hD,hh.1.2.mono hD⟩,ih hh.2⟩
    exact go es this
   |loop l=>exact this
   |dfr c=>exact this
   |siter s p=>trivial
   |tok k=>trivial
 ·have:=eK hin' i o hi
  cases o with
  |cells op cs=>exact Ins.mono hDO this
  |map es=>
   have go:∀es:List (V×V),qZ (· <aC+bs.length+n) es→qZ (wL ⟨aC+bs.length,og ol,[]⟩) es:=by
    intro es
    induction es with
    |nil=>intro _;trivial
    |cons e es ih=>intro hh;obtain⟨a,b⟩:=e;exact⟨⟨hh.1.1.mono hDO,hh.1.2.mono hDO⟩,ih hh.2⟩
   exact go es this
  |loop l=>exact this
  |dfr c=>exact this
  |siter s p=>trivial
  |tok k=>trivial
 ·have hob:h'.ob=(mrg (ρL bs h.nxt) ⟨aC+bs.length,og ol,[]⟩ h ⟨aC+bs.length+n,og ol',[]⟩).ob:=by
   funext b
   simp only[mrg]
   split
   ·rename_i i hi
    obtain⟨h1,h2⟩:=eH hi
    have hgi:aC≤i:=by
     rcases h1 with h1|h1
     ·exact((hol i).1 h1).1
     ·have:aC+bs.length≤i:=h1;omega
    rcases Nat.lt_or_ge i (aC+bs.length+n)with g|g
    ·have:=hfoot (i-aC) (by omega)
     rw[show aC+(i-aC)=i by omega,h2]at this
     exact this
    ·rw[dR hol' i g]
     rw[oD (by omega)]at h2
     have hf:=(bg.mr.fresh b (by omega)).2.1
     rw[hrest b fun j hj e=>?_,hf];rfl
     rcases Nat.lt_or_ge j bs.length with q|q
     ·obtain⟨c,k1,k2⟩:=at_ (aC+j) (by omega) (by omega)
      rw[k2]at e
      cases ho:og ol (aC+j)with
      |none=>
       have:=(hol (aC+j)).2 ⟨by omega,by omega⟩
       rw[ho]at this;cases this
      |some o=>
       rw[show aC+j-aC=j by omega]at k1
       have:=hobj j c o k1 ho
       rw[e,hf]at this;cases this
     ·rw[oD (by omega)]at e;omega
   ·rename_i hi
    refine hrest b fun j hj e=>?_
    unfold inv at hi
    split at hi
    ·cases hi
    ·rename_i hn
     refine hn ⟨aC+j,?_,e⟩
     rcases Nat.lt_or_ge j bs.length with q|q
     ·exact .inl ((hol (aC+j)).2 ⟨by omega,by omega⟩)
     ·exact .inr (by show aC+bs.length≤aC+j;omega)
  cases h' with
  |mk nx ob lc=>
   simp only at hob hlc hnx
   subst hlc;subst hnx;subst hob
   simp only[mrg]
   congr 1
   omega
theorem PendR.bFi{P:Program}{gl:List Nat}{nt:Nat}{h h0:H}{anc i:Nat}{ro:Option RO}{tmr:TM}{v:TV}{es:List ER}(hp:anc.testBit i=true)(next:PendR P gl nt h anc es):PendR P gl nt h anc (⟨i,ro,tmr,v,h0⟩::es):=.pass hp next
theorem PendR.bEy{P:Program}{gl:List Nat}{nt:Nat}{h h0:H}{anc i:Nat}{ro:Option RO}{tmr:TM}{v:TV}{es:List ER}(hp:h0=h)(next:PendR P gl nt h anc es):PendR P gl nt h anc (⟨i,ro,tmr,v,h0⟩::es):=.same hp next
theorem PendR.aYz{P:Program}{gl:List Nat}{nt:Nat}{h h0:H}{anc i:Nat}{ro:RO}{tmr:TM}{v:TV}{es:List ER}(hl:xQ gl tmr h ro=some v)(next:PendR P gl nt h anc es):PendR P gl nt h anc (⟨i,some ro,tmr,v,h0⟩::es):=.fZ (bJ (kI hl)) next
theorem wrap64{n:Int}(h1:n<9223372036854775808)(h2: -9223372036854775808≤n):IntKind.i64.wrap n=n:=by
 simp[IntKind.wrap,IntKind.bits,IntKind.signed];omega
section
variable{P:Program}{gl:List Nat}{fr:Fr}{QN:S→Prop}{QX:X→S→Prop}{ds:List Nat}{anc:Nat}{hs:List (RI×List RI)}{l:List RI}{r:RI}{tm tm1:TM}{df:List AD}{u:Option AMode}{nx:Nat}{ol:OL}{lc:LM}{es:List ER}
theorem DW.oW{v:TV}(hw:aV r.gd (aF tm r.rd)=some true)(ho:∀h,cG P gl fr.nt (aF tm r.rd) h r.ro v)(hp:bB fr.nt tm r.dst v=some tm1)
  (h:DW P gl fr ds l anc hs (SL.toS ⟨tm1,df,u,nx,ol,lc⟩) es QN QX):DW P gl fr ds (r::l) anc hs (SL.toS ⟨tm,df,u,nx,ol,lc⟩) es QN QX:=DW.pure (s:=SL.toS ⟨tm,df,u,nx,ol,lc⟩) hw ho hp h
theorem DW.bD{v:TV}(hw:aV r.gd (aF tm r.rd)=some true)(ho:cG P gl fr.nt (aF tm r.rd) ⟨nx,og ol,lc⟩ r.ro v)(hp:bB fr.nt tm r.dst v=some tm1)
  (h:DW P gl fr ds l anc hs (SL.toS ⟨tm1,df,u,nx,ol,lc⟩) (⟨r.i,r.ro,aF tm r.rd,v,⟨nx,og ol,lc⟩⟩::es) QN QX):DW P gl fr ds (r::l) anc hs (SL.toS ⟨tm,df,u,nx,ol,lc⟩) es QN QX:=DW.fZ (s:=SL.toS ⟨tm,df,u,nx,ol,lc⟩) hw ho hp h
theorem eJ{nt:Nat}{x y:RX}{a b:List Nat}(hx:rv gl tm x=some (.str a))(hy:rv gl tm y=some (.str b))(hl:a.length+b.length≤iE)(h:H):cG P gl nt tm h (some (.bin .add x y)) (.v (.str (a++b))):=by
 refine zS ?_ (fun _ e=>by cases e)
 simp only[rl,hx,hy,aZy,if_pos hl,Option.map_some]
end
theorem aBi{ρ:Nat→Nat}{α:Type}{f:α→List V}:∀{l:List α},(∀x∈l,dB ρ (f x)=f x)→nL ρ (l.map f)=l.map f
 |[],_=>rfl
 |a::l,h=>by simp only[List.map_cons,nL,h a (List.mem_cons_self ..),aBi fun x hx=>h x (List.mem_cons_of_mem _ hx)]
end Go.VM
end
section
/- The machine of values: what serves over listed memory: a nil slice or not; memory told anew behind a call; slices.Clone. -/
namespace Go.VM
open Go.RowKit
end Go.VM
end
section
/- The machine of values: more for loops over listed memory. -/
namespace Go.VM
open Go.RowKit
inductive TellT(tm1:TM)(lc:LM):TM→Prop where
 |nil:TellT tm1 lc []
 |cons {k:Nat} {u v:TV} {r:TM} (h:tg tm1 k=some u) (t:TLe lc u v) (next:TellT tm1 lc r):TellT tm1 lc ((k,v)::r)
theorem TellT.all{tm1:TM}{lc:LM}{tm:TM}(h:TellT tm1 lc tm):∀e∈tm,∃u,tg tm1 e.1=some u∧TLe lc u e.2:=by
 induction h with
 |nil=>intro e he;cases he
 |cons h t _ ih=>
  intro e he
  cases he with
  |head=>exact⟨_,h,t⟩
  |tail _ he=>exact ih e he
inductive TellL(lc1:LM):LM→Prop where
 |nil:TellL lc1 []
 |cons {k:Nat} {u v:List V} {r:LM} (h:lg lc1 k=some u) (t:u=v∨CLe u v) (next:TellL lc1 r):TellL lc1 ((k,v)::r)
theorem TellL.all{lc1:LM}{lc:LM}(h:TellL lc1 lc):∀e∈lc,∃cs,lg lc1 e.1=some cs∧(cs=e.2∨CLe cs e.2):=by
 induction h with
 |nil=>intro e he;cases he
 |cons h t _ ih=>
  intro e he
  cases he with
  |head=>exact⟨_,h,t⟩
  |tail _ he=>exact ih e he
section
variable{P:Program}{gl:List Nat}{fr:Fr}{QN:S→Prop}{QX:X→S→Prop}{ds:List Nat}{anc:Nat}{hs:List (RI×List RI)}{l:List RI}{r:RI}{tm tm1 tm2:TM}{df:List AD}{u:Option AMode}{nx:Nat}{ol:OL}{lc lc2:LM}{es:List ER}
theorem SW.aM(ht:TellT tm lc2 tm2)(hl:TellL lc lc2):SW gl fr (SL.toS ⟨tm,df,u,nx,ol,lc⟩) (SL.toS ⟨tm2,df,u,nx,ol,lc2⟩):=SW.tell (s1:=SL.toS ⟨tm,df,u,nx,ol,lc⟩) ht.all hl.all
theorem gL{nt:Nat}{h:H}{x i:RX}{k:IntKind}{n sz:Nat}{es:List (List V)}{c:LC}{cs:List V}(hx:rv gl tm x=some (.lst es c))(hi:rv gl tm i=some (.int k n))(hg:es[n]? =some cs)(hl:cs.length=sz):
  cG P gl nt tm h (some (.ia x i sz)) (.e cs):=by
 refine bJ ?_
 simp only[eM,rl,hx,hi,Option.bind_some,iP]
 have:¬((n:Int)<0):=by omega
 simp[this,hg,hl]
end
section
variable{P:Program}{gl:List Nat}
end
end Go.VM
end
