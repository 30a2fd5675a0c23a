/- laid for this seat: VmClaim -/
import Derived.Test.YtgadhdnnkdcgkaaGreatDoorVmG
import Derived.ChangeStays
import Derived.ChangeOld
import Derived.RowKit
set_option linter.unusedVariables false
set_option linter.unusedSimpArgs false
/- The machine of values: from a call that says yes, over any memory, to a row: how arguments are read, and shut. -/
namespace Go.VM
open Go.RowKit
def aSw(w:World)(B i:Nat):Option Value:=
 match w.heap[B]? with
 |some (.cells c _ _)=>c[i]?
 |_=>none
def E0(w:World):Env:=⟨fun _=>none,aSw w,fun _ _=>none⟩
def F0:Fx:=⟨noL,fun _=>none,fun _=>.no⟩
def h0:H:=⟨aC,fun _=>none,[]⟩
theorem qU{w:World}{B i:Nat}{v:Value}(h:aSw w B i=some v):∃c el q,w.heap[B]? =some (.cells c el q)∧c[i]? =some v:=by
 unfold aSw at h
 split at h
 ·rename_i c el q hc;exact⟨c,el,q,hc,h⟩
 ·cases h
theorem MR.zero(w:World):MR (E0 w) F0 h0 w w:=
 ⟨Below.refl _ _,fun b _=>⟨rfl,rfl,fun _=>rfl⟩,Nat.le_refl _,fun b o _ ho=>(by cases ho),fun b p _ hp=>(by cases hp),fun B h=>(h rfl).elim,fun b o p ho _=>(by cases ho),fun b o p _ ho _=>(by cases ho),
  fun B i v h=>qU h,fun B i v h hB=>(by
   obtain⟨c,el,q,h1,_⟩:=qU h
   have:=(Array.getElem?_eq_some_iff.1 h1).1
   omega),fun b n p ho _=>(by cases ho),fun b n m ho _=>(by cases ho),fun b n ho=>(by cases ho),fun d p hp=>(by cases hp),fun B x hx=>(by cases hx)⟩
def vT(P:Program)(S:List Nat):Bool:=S.all fun t=>match P.underlying t with
 |some .bool|some .string|some (.int _)=>true
 |some (.slice e)=>S.contains e&&Nat.blt 0 (P.cellsOf e)
 |some (.struct fs)=>fs.toList.all (fun f=>S.contains f.type)&&decide (P.cellsOf t=(fs.toList.map fun f=>P.cellsOf f.type).sum)&&
   (List.range fs.size).all fun j=>match fs[j]? with
    |some f=>decide (f.offset=((fs.toList.take j).map fun f=>P.cellsOf f.type).sum)
    |none=>true
 |_=>false
theorem nC{P:Program}{S:List Nat}(h:vT P S=true){t:Nat}(ht:t∈S):(match P.underlying t with
 |some .bool|some .string|some (.int _)=>true
 |some (.slice e)=>S.contains e&&Nat.blt 0 (P.cellsOf e)
 |some (.struct fs)=>fs.toList.all (fun f=>S.contains f.type)&&decide (P.cellsOf t=(fs.toList.map fun f=>P.cellsOf f.type).sum)&&
   (List.range fs.size).all fun j=>match fs[j]? with
    |some f=>decide (f.offset=((fs.toList.take j).map fun f=>P.cellsOf f.type).sum)
    |none=>true
 |_=>false)=true:=List.all_eq_true.1 h t ht
theorem rX{P:Program}{S:List Nat}(h:vT P S=true){t e:Nat}(ht:t∈S)(hu:P.underlying t=some (.slice e)):e∈S∧0<P.cellsOf e:=by
 have:=nC h ht
 rw[hu]at this
 simp only[Bool.and_eq_true,List.contains_iff_mem]at this
 exact⟨this.1,by simpa [Nat.blt_eq] using this.2⟩
theorem vY{P:Program}{S:List Nat}(h:vT P S=true){t:Nat}{fs:Array Field}(ht:t∈S)(hu:P.underlying t=some (.struct fs)):
  (∀f∈fs.toList,f.type∈S)∧P.cellsOf t=(fs.toList.map fun f=>P.cellsOf f.type).sum∧∀(j:Nat) f,fs.toList[j]? =some f→f.offset=((fs.toList.take j).map fun f=>P.cellsOf f.type).sum:=by
 have:=nC h ht
 rw[hu]at this
 simp only[Bool.and_eq_true,decide_eq_true_eq]at this
 obtain⟨⟨a,b⟩,c⟩:=this
 refine⟨fun f hf=>by simpa [List.contains_iff_mem] using List.all_eq_true.1 a f hf,b,fun j f hj=>?_⟩
 have hlt:j<fs.size:=by have:=(List.getElem?_eq_some_iff.1 hj).1;simpa using this
 have:=List.all_eq_true.1 c j (by simpa using hlt)
 have e:fs[j]? =some f:=by simpa using hj
 rw[e]at this
 simpa using this
theorem aRa{P:Program}{S:List Nat}(h:vT P S=true):Kids P (· ∈S) where
 pointer ht hu:=by have:=nC h ht;rw[hu]at this;cases this
 slice ht hu:=(rX h ht hu).1
 array ht hu:=by have:=nC h ht;rw[hu]at this;cases this
 struct ht hu:=vY h ht hu
 map ht hu:=by have:=nC h ht;rw[hu]at this;cases this
section
variable{H:Type}
mutual
def dV:DataW H→List V
 |.lit (.bool b)=>[.bool b]
 |.lit (.int k n)=>[.int k n]
 |.lit (.string s)=>[.str (s.map UInt8.toNat)]
 |.nil=>[.lst [] .unk]
 |.slice es _=>[.lst (dVs es) .unk]
 |.agg ps=>dVf ps
 |_=>[]
def dVs:List (DataW H)→List (List V)
 |[]=>[]
 |x::r=>dV x::dVs r
def dVf:List (DataW H)→List V
 |[]=>[]
 |x::r=>dV x++dVf r
end
theorem aNu:∀l:List (DataW H),dVs l=l.map dV
 |[]=>rfl
 |x::r=>by rw[dVs,aNu r];rfl
theorem aOm:∀l:List (DataW H),dVf l=(l.map dV).flatten
 |[]=>rfl
 |x::r=>by rw[dVf,aOm r];rfl
def TyD(P:Program):Nat→TypeId→DataW H→Prop
 |0,_,_=>False
 |n+1,t,d=>match P.underlying t with
  |some .bool=>∃b,d=.lit (.bool b)
  |some (.int k)=>∃m,d=.lit (.int k m)∧(Lit.int k m).wf=true
  |some .string=>∃s,d=.lit (.string s)∧s.length≤maxLen
  |some (.slice e)=>d=.nil∨∃es sp,d=.slice es sp∧es.length≤maxLen∧∀x∈es,TyD P n e x
  |some (.struct fs)=>∃xs,d=.agg xs∧All₂ (fun(f:Field) x=>TyD P n f.type x) fs.toList xs
  |_=>False
end
theorem aCb{E:Env}:∀(zs:List Nat) (vs:List (List V)) (cs:List Value),vs.length=zs.length→cs.length=zs.sum→
  (∀(i:Nat) (v:List V) (z:Nat),vs[i]? =some v→zs[i]? =some z→ARs E v ((cs.drop (zs.take i).sum).take z))→ARs E vs.flatten cs
 |[],vs,cs,h1,h2,_=>by
  have:vs=[]:=List.eq_nil_of_length_eq_zero h1
  subst this
  have:cs=[]:=List.eq_nil_of_length_eq_zero h2
  subst this
  exact .nil
 |z::zs,[],cs,h1,_,_=>by simp at h1
 |z::zs,v::vs,cs,h1,h2,h3=>by
  have a:=h3 0 v z rfl rfl
  simp only[List.take_zero,List.sum_nil,List.drop_zero]at a
  have b:=aCb zs vs (cs.drop z) (by simpa using h1) (by simp at h2⊢;omega) (fun i u y hu hy=>by
   have:=h3 (i+1) u y (by simpa using hu) (by simpa using hy)
   rwa[List.take_succ_cons,List.sum_cons,←List.drop_drop]at this)
  rw[List.flatten_cons,←List.take_append_drop z cs]
  exact a.append b
theorem mapM_some{α β:Type}{f:α→Option β}:∀{l:List α} {r:List β},l.mapM f=some r→r.length=l.length∧∀(i:Nat) (x:α),l[i]? =some x→f x=r[i]?
 |[],r,h=>by
  simp only[List.mapM_nil]at h
  cases h
  exact⟨rfl,fun i x hx=>by simp at hx⟩
 |a::l,r,h=>by
  rw[List.mapM_cons]at h
  cases hf:f a with
  |none=>rw[hf]at h;cases h
  |some y=>
   cases hl:l.mapM f with
   |none=>rw[hf,hl]at h;cases h
   |some ys=>
    rw[hf,hl]at h
    cases h
    obtain⟨a1,a2⟩:=mapM_some hl
    refine⟨by simp[a1],fun i x hx=>?_⟩
    cases i with
    |zero=>simp at hx;subst hx;simpa using hf
    |succ i=>simpa using a2 i x (by simpa using hx)
theorem aPn{w:World}{a:Addr}{v:Value}(h:w.cell? a=some v):a.spot=none∧aSw w a.block a.off=some v:=by
 unfold World.cell? at h
 unfold aSw
 split at h
 ·rename_i c el q hc
  rw[hc]
  cases hs:a.spot with
  |none=>rw[hs]at h;exact⟨rfl,by simpa using h⟩
  |some s=>rw[hs]at h;simp at h
 ·cases h
section
variable{H:Type}{enc:TypeId×Value→H}{P:Program}{w:World}{sp:Nat→Bool}{held:Bool}{S:List Nat}
theorem aQk{ps:List (List V)}(h:∀p∈ps,p.all V.aW=true):ps.flatten.all V.aW=true:=by
 rw[List.all_eq_true]
 intro v hv
 obtain⟨p,h1,h2⟩:=List.mem_flatten.1 hv
 exact List.all_eq_true.1 (h p h1) v h2
theorem aNg{α β:Type}{R:α→β→Prop}:∀{l:List α} {m:List β},m.length=l.length→(∀(i:Nat) a,l[i]? =some a→∃b,m[i]? =some b∧R a b)→All₂ R l m
 |[],m,h,_=>by
  have:m=[]:=List.eq_nil_of_length_eq_zero h
  subst this;exact .nil
 |a::l,[],h,_=>by simp at h
 |a::l,b::m,h,k=>by
  obtain⟨b',h1,h2⟩:=k 0 a rfl
  simp at h1;subst h1
  exact .cons h2 (aNg (by simpa using h) fun i x hx=>by simpa using k (i+1) x (by simpa using hx))
theorem bDc(hS:vT P S=true):∀(n:Nat) (t:TypeId) (cs:List Value) (x:DataW H×List MemPlace),t∈S→DataW.trod enc P w 0 sp held n t cs=some x→
  ARs (E0 w) (dV x.1) cs∧(dV x.1).all V.aW=true∧TyD P n t x.1:=by
 intro n
 induction n with
 |zero=>intro t cs x _ h;simp[DataW.trod]at h
 |succ n ih=>
  intro t cs x ht h
  have hf:=nC hS ht
  cases hu:P.underlying t with
  |none=>rw[hu]at hf;cases hf
  |some d=>
   cases d with
   |bool=>
    obtain⟨b,rfl,rfl⟩:=DataW.trod_bool hu h
    exact⟨.cons _ _ _ _ (.bool b) .nil,rfl,by simp[TyD,hu]⟩
   |int k=>
    obtain⟨m,rfl,rfl,hw⟩:=DataW.trod_int hu h
    exact⟨.cons _ _ _ _ (.int k m) .nil,rfl,by simp[TyD,hu];exact hw⟩
   |string=>
    obtain⟨s,rfl,rfl,hl⟩:=DataW.trod_string hu h
    exact⟨.cons _ _ _ _ (.str _ s rfl) .nil,rfl,by simp[TyD,hu];exact hl⟩
   |slice e=>
    obtain⟨he,hz⟩:=rX hS ht hu
    rcases DataW.trod_slice hu h with⟨rfl,rfl⟩|⟨a,len,cap,elems,rest,m,hm,rfl,rfl,_,hlc,hcm,hlen,hel,_⟩
    ·exact⟨.cons _ _ _ _ (.lst0 .unk none 0 trivial) .nil,rfl,by simp[TyD,hu]⟩
    ·have hm:n=m:=by omega
     subst hm
     have key:∀(i:Nat) y,elems[i]? =some y→∃ci,w.cells? 0 (a.add (i*P.cellsOf e)) (P.cellsOf e)=some ci∧DataW.trod enc P w 0 sp held n e ci=some y:=by
      intro i y hy
      have hi:i<len:=by rw[←hlen];exact(List.getElem?_eq_some_iff.1 hy).1
      have:=hel i hi
      rw[hy]at this
      cases hc:w.cells? 0 (a.add (i*P.cellsOf e)) (P.cellsOf e)with
      |none=>rw[hc]at this;cases this
      |some ci=>rw[hc]at this;exact⟨ci,rfl,this⟩
     have cellsAt:∀(i:Nat) ci,w.cells? 0 (a.add (i*P.cellsOf e)) (P.cellsOf e)=some ci→ci.length=P.cellsOf e∧∀j,j<P.cellsOf e→w.cell? ((a.add (i*P.cellsOf e)).add j)=ci[j]?:=by
      intro i ci hci
      unfold World.cells? at hci
      rw[if_pos (Nat.zero_le _)]at hci
      obtain⟨q1,q2⟩:=mapM_some hci
      refine⟨by simpa using q1,fun j hj=>q2 j j ?_⟩
      rw[List.getElem?_range hj]
     have ty:TyD P (n+1) t (.slice (elems.map (·.1)) (rest.map (·.1))):=by
      simp only[TyD,hu]
      refine .inr ⟨_,_,rfl,by simp;omega,fun x hx=>?_⟩
      obtain⟨y,hy,rfl⟩:=List.mem_map.1 hx
      obtain⟨i,hi⟩:=List.mem_iff_getElem?.1 hy
      obtain⟨ci,_,h2⟩:=key i y hi
      exact(ih e ci y he h2).2.2
     refine⟨.cons _ _ _ _ ?_ .nil,rfl,ty⟩
     show AR (E0 w) (.lst (dVs (elems.map (·.1))) .unk) _
     rw[aNu]
     cases elems with
     |nil=>
      simp at hlen;subst hlen
      exact .lst0 .unk _ cap trivial
     |cons y0 ys=>
      have hspot:a.spot=none:=by
       obtain⟨ci,h1,h2⟩:=key 0 y0 rfl
       obtain⟨g1,g2⟩:=cellsAt 0 ci h1
       have:=g2 0 hz
       rw[List.getElem?_eq_getElem (by omega)]at this
       have:=(aPn this).1
       simpa [Addr.add] using this
      obtain⟨blk,off,spot⟩:=a
      simp only at hspot
      subst hspot
      simp only[List.map_cons]
      refine .lst _ _ .unk blk off len cap (P.cellsOf e) ?_ (by simp at hlen;simp;omega) hlc trivial
      have hall:∀(i:Nat) c,(((y0::ys).map (·.1)).map dV)[i]? =some c→c.length=P.cellsOf e∧FZ (E0 w) blk (off+i*P.cellsOf e) c:=by
       intro i c hc
       rw[List.map_map,List.getElem?_map]at hc
       cases hy:(y0::ys)[i]? with
       |none=>rw[hy]at hc;cases hc
       |some y=>
        rw[hy]at hc
        cases hc
        obtain⟨ci,h1,h2⟩:=key i y hy
        obtain⟨g1,g2⟩:=cellsAt i ci h1
        obtain⟨r1,r2,_⟩:=ih e ci y he h2
        refine⟨r1.length.trans g1,FZ.eY fun j v hv=>?_⟩
        obtain⟨v',q1,q2⟩:=r1.get j v hv
        have hj:j<P.cellsOf e:=by rw[←g1];exact(List.getElem?_eq_some_iff.1 q1).1
        have:=g2 j hj
        rw[q1,add_zero,add_zero]at this
        exact⟨List.all_eq_true.1 r2 v (List.mem_of_getElem? hv),v',(aPn this).2,q2⟩
      exact FZs.eY hall
   |struct fs=>
    obtain⟨f1,f2,f3⟩:=vY hS ht hu
    obtain⟨xs,m,hm,rfl,hlen,hxs,hfs⟩:=DataW.trod_struct hu h
    have hm:n=m:=by omega
    subst hm
    have key:∀(i:Nat) f,fs.toList[i]? =some f→∃y,xs[i]? =some y∧DataW.trod enc P w 0 sp held n f.type ((cs.drop f.offset).take (P.cellsOf f.type))=some y:=by
     intro i f hf
     have hlt:i<fs.size:=by have:=(List.getElem?_eq_some_iff.1 hf).1;simpa using this
     have:=hfs i f (by simpa using hf)
     rw[List.getElem?_eq_getElem (by omega)]at this
     exact⟨xs[i],List.getElem?_eq_getElem (by omega),this⟩
    have hd:dV (DataW.agg (xs.map (·.1)):DataW H)=((xs.map (·.1)).map dV).flatten:=aOm _
    show ARs _ (dV (DataW.agg (xs.map (·.1)))) _∧List.all (dV (DataW.agg (xs.map (·.1)))) _=true∧TyD P (n+1) t (DataW.agg (xs.map (·.1)))
    rw[hd]
    refine⟨aCb (fs.toList.map fun f=>P.cellsOf f.type) _ _ (by simp[hxs]) (by rw[hlen,f2]) fun i v z hv hz=>?_,aQk fun p hp=>?_,?_⟩
    ·rw[List.getElem?_map]at hz
     cases hf:fs.toList[i]? with
     |none=>rw[hf]at hz;cases hz
     |some f=>
      rw[hf]at hz;cases hz
      obtain⟨y,h1,h2⟩:=key i f hf
      rw[List.map_map,List.getElem?_map,h1]at hv
      cases hv
      have:=(ih f.type _ y (f1 f (List.mem_of_getElem? hf)) h2).1
      rwa[f3 i f hf,List.map_take]at this
    ·rw[List.map_map]at hp
     obtain⟨y,hy,rfl⟩:=List.mem_map.1 hp
     obtain⟨i,hi⟩:=List.mem_iff_getElem?.1 hy
     have hlt:i<fs.size:=by rw[←hxs];exact(List.getElem?_eq_some_iff.1 hi).1
     obtain⟨y',h1,h2⟩:=key i fs[i] (by simp[hlt])
     rw[hi]at h1;cases h1
     exact(ih _ _ y (f1 _ (by simp)) h2).2.1
    ·simp only[TyD,hu]
     refine⟨_,rfl,aNg (by simp[hxs]) fun i f hf=>?_⟩
     obtain⟨y,h1,h2⟩:=key i f hf
     exact⟨y.1,by rw[List.getElem?_map,h1];rfl,(ih f.type _ y (f1 f (List.mem_of_getElem? hf)) h2).2.2⟩
   |_=>rw[hu]at hf;cases hf
end
section
open Go.WideShapes Go.ChangeShapes
variable{H:Type}{enc:TypeId×Value→H}{P:Program}{W W':World}{S:List Nat}{t:TypeId}{v:Value}{d:DataW H}{base:Nat}{r:Reach}{ps:List MemPlace}
theorem aLc{x:V}(hu:P.underlying t=some .string)(hval:Value.okWide P W r base t v)(hr:ARs (E0 W) (dV d) v.cells.toList)(hd:dV d=[x]):AR (E0 W) x v:=by
 obtain⟨n,rfl⟩:=okWide_string hu hval
 rw[hd]at hr
 cases hr with
 |cons _ _ _ _ h _=>exact h
theorem aCm(hS:vT P S=true)(hb:Below W.heap.size W W'):∀{ts:List TypeId} {vs:List Value} {ds:List (DataW H)} {ps:List MemPlace},(∀t∈ts,t∈S)→(∀p∈ps,p.block<W.heap.size)→
  DataW.TrodAll enc P W 0 (fun _=>true) true ts vs ds ps→DataW.TrodAll enc P W' 0 (fun b=>decide (b<W.heap.size)) true ts vs ds ps
 |[],[],[],ps,_,_,h=>h
 |t::ts,v::vs,d::ds,ps,ht,hp,⟨p,q,⟨n,hn⟩,h2,e⟩=>by
  subst e
  refine⟨p,q,⟨n,?_⟩,aCm hS hb (fun t h=>ht t (by simp[h])) (fun x h=>hp x (by simp[h])) h2,rfl⟩
  exact DataW.trod_stays (aRa hS) (fun h1 h2=>(rX hS h1 h2).2) (fun h=>by cases h) (ht t (by simp)) hn (fun x hx=>hb.same (hp x (by simp[show x∈p from hx]))) (fun x hx=>by simpa using hp x (by simp[show x∈p from hx]))
 |[],[],_::_,_,_,_,h=>h.elim
 |[],_::_,_,_,_,_,h=>h.elim
 |_::_,[],_,_,_,_,h=>h.elim
 |_::_,_::_,[],_,_,_,h=>h.elim
theorem aUh(hS:vT P S=true)(hb:Below W.heap.size W W'){ts:List TypeId}{vs:List Value}{ds gs:List (DataW H)}{p q:List MemPlace}{apart:Bool}{vars:List String}(hT:∀t∈ts,t∈S)
  (hW:DataW.Whole enc P ts vars apart W vs ds gs (p++q)) (h:DataW.TrodAll enc P W 0 (fun _=>true) true ts vs ds p):DataW.TrodAll enc P W' 0 (fun b=>decide (b<W.heap.size)) true ts vs ds p:=
 aCm hS hb hT (fun x hx=>hW.lt x (by simp[hx])) h
end
section
variable{H:Type}{P:Program}{n:Nat}{t:TypeId}{d:DataW H}
theorem TyD.str(h:TyD P n t d)(hu:P.underlying t=some .string):∃s,d=.lit (.string s)∧s.length≤maxLen:=by
 cases n with
 |zero=>exact h.elim
 |succ n=>simp only[TyD,hu]at h;exact h
theorem TyD.st{fs:Array Field}(h:TyD P n t d)(hu:P.underlying t=some (.struct fs)):∃xs m,n=m+1∧d=.agg xs∧All₂ (fun(f:Field) x=>TyD P m f.type x) fs.toList xs:=by
 cases n with
 |zero=>exact h.elim
 |succ n=>
  simp only[TyD,hu]at h
  obtain⟨xs,a,b⟩:=h
  exact⟨xs,n,rfl,a,b⟩
end
end Go.VM
