/- laid for this seat: VhD VhE -/
import Derived.Test.YtgadhdnnkdcgkaaGreatDoorVi1
import Derived.Test.YtgadhdnnkdcgkaaGreatDoorVi0
import Derived.Test.YtgadhdnnkdcgkaaGreatDoorVi2
set_option linter.unusedVariables false
set_option linter.unusedSimpArgs false
section
/- Files: what a file is without places; its names are short. -/
set_option maxRecDepth 100000
namespace Go.VM
open Go.RowKit
def gF(sep:Nat):List (List Nat)→List Nat→List Nat
 |[],out=>out
 |n::r,out=>gF sep r ((out++[sep])++n)
theorem oS(sep W:Nat):∀(l:List (List Nat)) (out:List Nat),(∀n∈l,n.length≤W)→(gF sep l out).length≤out.length+l.length*(W+1)
 |[],out,_=>by simp[gF]
 |n::r,out,h=>by
  have:=oS sep W r ((out++[sep])++n) (fun x hx=>h x (List.mem_cons_of_mem _ hx))
  have hn:=h n (by simp)
  simp only[List.length_append,List.length_cons,List.length_nil]at this
  show(gF sep r ((out++[sep])++n)).length≤_
  rw[List.length_cons,Nat.succ_mul]
  omega
def zK(out:List Nat)(d:Dx):List Nat:=gF 46 (d.body.map nmX) (gF 44 (d.ms.map Mx.n) (gF 44 (d.fs.map Pm.n) (((out++[59])++d.n)++d.rv.n)))
def rC(f:FileX):List Nat:=f.ds.foldl zK (gF 32 (f.is.map Im.n) f.n)
theorem QL.map{α β:Type}{Q:α→α→Prop}{g:α→β}(h:∀x x',Q x x'→g x'=g x):∀{l l':List α},QL Q l l'→l'.map g=l.map g
 |[],[],_=>rfl
 |x::l,x'::l',q=>by rw[List.map_cons,List.map_cons,h _ _ q.1,QL.map h q.2]
 |[],_::_,q=>by cases q
 |_::_,[],q=>by cases q
theorem bBs{f f':FileX}(h:QF f f'):rC f'=rC f:=by
 have e1:f'.is.map Im.n=f.is.map Im.n:=h.is.map fun _ _ q=>q
 have e2:∀(l l':List Dx) (o:List Nat),QL QD l l'→l'.foldl zK o=l.foldl zK o:=by
  intro l
  induction l with
  |nil=>intro l' o q;cases l' with|nil=>rfl|cons _ _=>cases q
  |cons d l ih=>
   intro l' o q
   cases l' with
   |nil=>cases q
   |cons d' l'=>
    have ed:zK o d'=zK o d:=by
     unfold zK
     have e3:d'.fs.map Pm.n=d.fs.map Pm.n:=q.1.fs.map fun _ _ q=>q
     have e4:d'.ms.map Mx.n=d.ms.map Mx.n:=q.1.ms.map fun _ _ q=>q
     rw[e3,e4,q.1.body,q.1.n,q.1.rv]
    rw[List.foldl_cons,List.foldl_cons,ed]
    exact ih _ _ q.2
 unfold rC
 rw[e1,h.n]
 exact e2 _ _ _ h.ds
structure smD(W:Nat)(d:Dx):Prop where
 n:d.n.length≤W
 rv:d.rv.n.length≤W
 fs:∀p∈d.fs,p.n.length≤W
 fl:d.fs.length≤20000
 ms:∀p∈d.ms,p.n.length≤W
 ml:d.ms.length≤20000
 body:∀x∈d.body,(nmX x).length≤W
 bl:d.body.length≤20000
structure smF(W:Nat)(f:FileX):Prop where
 n:f.n.length≤W
 is:∀p∈f.is,p.n.length≤W
 il:f.is.length≤20000
 ds:∀d∈f.ds,smD W d
 dl:f.ds.length≤20000
section
variable{l:List Tz}{W:Nat}
theorem lN(hW:∀i,(aA l i).t.length≤W){a:Nat}{t:Tz}{a1:Nat}(h:fName l a=.ok t a1):t.t.length≤W:=by
 rw[(cI h).2.2.1];exact hW a
theorem zG(hW:∀i,(aA l i).t.length≤W){a:Nat}{x:Pm}{a1:Nat}(h:cK l a=.ok x a1):x.n.length≤W:=by
 obtain⟨t,a2,h1,h⟩:=R.aB h
 obtain⟨y,a3,h2,h⟩:=R.aB h
 cases h
 exact lN hW h1
theorem bFt{x:Sx}(h:okN W x):(nmX x).length≤W:=by
 cases x
 first|exact h.1|exact h.2|exact h.2.1|exact h
theorem bDs(hW:∀i,(aA l i).t.length≤W)(hl:l.length<19999)(hT:∀t∈l,t.t.length<big){m a:Nat}{d:Dx}{a':Nat}(h:fB l (ST l) m a=.ok d a'):smD W d:=by
 have nil0:∀{α:Type} {Q:α→Prop},∀p∈([]:List α),Q p:=fun p hp=>by cases hp
 have z0:(0:Nat)≤20000:=Nat.zero_le _
 have j3:∀{p nm mt rv bs b d a'},fJ3 l (ST l) m p nm mt rv bs b=.ok d a'→nm.length≤W→rv.n.length≤W→smD W d:=by
  intro p nm mt rv bs b d a' h hnm hrv
  obtain⟨_,a1,h1,h⟩:=R.aB h
  obtain⟨fs,a2,h2,h⟩:=R.aB h
  obtain⟨r,a3,h3,h⟩:=R.aB h
  unfold lR at h
  split at h
  ·rename_i v n hs
   have q:=aUj hl hT hs
   have qn:∀x∈v,(nmX x).length≤W:=by
    rcases kN l a3 with e|⟨_,r,⟨N,hm⟩,e⟩
    ·rw[e]at hs;cases hs
    ·rw[e]at hs
     unfold oV at hs
     split at hs
     ·cases hs
      exact fun x hx=>bFt (aTp hW (hm N (Nat.le_refl _)) x hx)
     ·cases hs
   have ln:=tC (fun _ _ _=>bU) h2
   cases h
   exact⟨hnm,hrv,aHd (Q:=fun p:Pm=>p.n.length≤W) (fun _ _ _=>zG hW) (fun _ _ _=>bU) h2,by show fs.length≤_;omega,nil0,z0,qn,by show v.length≤_;omega⟩
  ·cases h
  ·cases h
 have j4:∀{mt rv b d a'},fJ4 l (ST l) m mt rv b=.ok d a'→rv.n.length≤W→smD W d:=by
  intro mt rv b d a' h hrv
  obtain⟨t,a1,h1,h⟩:=R.aB h
  split at h
  ·obtain⟨bs,a2,h2,h⟩:=R.aB h
   exact j3 h (lN hW h1) hrv
  ·exact j3 h (lN hW h1) hrv
 unfold fB at h
 split at h
 ·obtain⟨t,a1,h1,h⟩:=R.aB h
  split at h
  ·obtain⟨_,a2,h2,h⟩:=R.aB h
   obtain⟨ms,a3,h3,h⟩:=R.aB h
   have q2:=aN (by decide) h2
   have q3:=kW (fun _ _ _ _=>fH) _ _ _ _ _ q2.2.1 h3
   have ln:=aCz (fun _ _ _=>fH) _ _ _ _ _ h3 (Nat.zero_le _)
   have al:=aXs (Q:=fun m:Mx=>m.n.length≤W) (fun _ _ _ e _=>by
    obtain⟨p,b1,e1,e⟩:=R.aB e
    obtain⟨_,b2,e2,e⟩:=R.aB e
    obtain⟨_,b3,e3,e⟩:=R.aB e
    obtain⟨_,b4,e4,e⟩:=R.aB e
    obtain⟨_,b5,e5,e⟩:=R.aB e
    cases e
    exact lN hW e1) (fun _ _ _ _=>fH) _ _ _ _ _ q2.2.1 h3 nil0
   cases h
   exact⟨lN hW h1,Nat.zero_le _,nil0,z0,al,by show ms.length≤_;omega,nil0,z0⟩
  ·obtain⟨_,a2,h2,h⟩:=R.aB h
   obtain⟨_,a3,h3,h⟩:=R.aB h
   obtain⟨fs,a4,h4,h⟩:=R.aB h
   have q3:=aN (by decide) h3
   have q4:=kW (fun _ _ _ _=>fS) _ _ _ _ _ q3.2.1 h4
   have ln:=aCz (fun _ _ _=>fS) _ _ _ _ _ h4 (Nat.zero_le _)
   have al:=aXs (Q:=fun p:Pm=>p.n.length≤W) (fun _ _ _ e _=>by
    obtain⟨p,b1,e1,e⟩:=R.aB e
    obtain⟨u,b2,e2,e⟩:=R.aB e
    cases e
    exact zG hW e1) (fun _ _ _ _=>fS) _ _ _ _ _ q3.2.1 h4 nil0
   cases h
   exact⟨lN hW h1,Nat.zero_le _,al,by show fs.length≤_;omega,nil0,z0,nil0,z0⟩
 ·split at h
  ·unfold gN at h
   split at h
   ·obtain⟨p,a1,h1,h⟩:=R.aB h
    obtain⟨_,a2,h2,h⟩:=R.aB h
    exact j4 h (zG hW h1)
   ·exact j4 h (Nat.zero_le _)
  ·cases h
theorem aFt(hW:∀i,(aA l i).t.length≤W)(hl:l.length<19999)(hT:∀t∈l,t.t.length<big){f:FileX}{a:Nat}(h:FL l=.ok f a):smF W f:=by
 unfold FL at h
 obtain⟨_,a1,h1,h⟩:=R.aB h
 obtain⟨t,a2,h2,h⟩:=R.aB h
 obtain⟨_,a3,h3,h⟩:=R.aB h
 obtain⟨is,a4,h4,h⟩:=R.aB h
 obtain⟨ds,a5,h5,h⟩:=R.aB h
 have q2:=aN (by decide) h3
 have q3:=sX q2.2.1 h4
 have l1:=aWj _ _ _ _ _ h4 (Nat.zero_le _)
 have l2:=aRr (aJa hl hT) _ _ _ _ _ q3.2 h5 (Nat.zero_le _) (fun d hd=>by cases hd)
 have gi:∀(m:Nat) (acc:List Im) (a:Nat) (xs:List Im) (a':Nat),eC l m acc a=.ok xs a'→(∀p∈acc,p.n.length≤W)→∀p∈xs,p.n.length≤W:=by
  intro m
  induction m with
  |zero=>intro acc a xs a' h;cases h
  |succ m ih=>
   intro acc a xs a' h hacc
   unfold eC at h
   split at h
   ·cases h;exact hacc
   ·obtain⟨t,b1,e1,h⟩:=R.aB h
    obtain⟨_,b2,e2,h⟩:=R.aB h
    refine ih _ _ _ _ h fun y hy=>?_
    rcases List.mem_append.1 hy with hy|hy
    ·exact hacc y hy
    ·rw[List.mem_singleton]at hy;subst hy;exact lN hW e1
 have go:∀(m:Nat) (acc:List Dx) (a:Nat) (xs:List Dx) (a':Nat),cN l (ST l) (l.length+1) m acc a=.ok xs a'→(∀d∈acc,smD W d)→∀d∈xs,smD W d:=by
  intro m
  induction m with
  |zero=>intro acc a xs a' h;cases h
  |succ m ih=>
   intro acc a xs a' h hacc
   unfold cN at h
   split at h
   ·cases h;exact hacc
   ·obtain⟨d,b1,e1,h⟩:=R.aB h
    refine ih _ _ _ _ h fun y hy=>?_
    rcases List.mem_append.1 hy with hy|hy
    ·exact hacc y hy
    ·rw[List.mem_singleton]at hy;subst hy;exact bDs hW hl hT e1
 have gd:=go _ _ _ _ _ h5 (fun d hd=>by cases hd)
 have gim:=gi _ _ _ _ _ h4 (fun d hd=>by cases hd)
 have hn:=lN hW h2
 cases h
 exact⟨hn,gim,by show is.length≤_;omega,gd,by show ds.length≤_;omega⟩
end
end Go.VM
end
section
/- Files: what a file is without places, walked. -/
set_option maxRecDepth 100000
namespace Go.VM
open Go.RowKit
def fM(f:FileX):OL:=[(1000,.cells false (aHs f))]
theorem bKj{QN:S→Prop}{QX:X→S→Prop}(f:FileX)(d:Dx)(hb:d.fs.length≤20000)(hn:∀x∈d.fs,(Pm.n x).length≤5000)(out0:List Nat)(j:Int)
  (h0:∀tm lc,TellT tm [(6,eX d)] [(1,.v (.ptr 1000 0)),(3,.v (.str (gF 44 (d.fs.map Pm.n) out0))),(5,.v (.int .i64 j)),(6,.l 6 0)]→TellL lc [(6,eX d)]→QX (.exit 4) (SL.toS ⟨tm,[],none,1001,fM f,lc⟩)):∀(m i:Nat) (out:List Nat),i+m=d.fs.length→out.length+m*5001≤9000000000000000→gF 44 ((d.fs.drop i).map Pm.n) out=gF 44 (d.fs.map Pm.n) out0→
  WLr Go.Proofs.Tryz.prog [] ⟨Go.Proofs.Tryz.f13.ntmps,none,13⟩ wS (SL.toS ⟨[(1,.v (.ptr 1000 0)),(3,.v (.str out)),(5,.v (.int .i64 j)),(6,.l 6 0),(7,.v (.int .i64 i))],[],none,1001,fM f,[(6,eX d)]⟩) QN QX:=by
 obtain⟨dk,da,de,dn,dmt,⟨rn,ra,⟨k1,b1,q1,m1,l1⟩⟩,bs,fs,ms,has,⟨k2,b2,q2,m2,l2⟩,body⟩:=d
 dsimp only at hb hn h0⊢
 intro m
 induction m with
 |zero=>
  intro i out hi ho e
  rw[List.drop_eq_nil_iff.2 (by omega)]at e
  have e:out=_:=e
  unfold wS
  refine WLr.of ?_
  repeat apply sQ
  refine WR.m 4 rfl ?_
  skip
  rw[List.length_map]
  refine WQ.m 1 rfl ?_
  rw[show decide ((i:Int)<(fs.length:Int))=false from decide_eq_false (by omega)]
  refine WQ.q rfl ?_
  repeat apply sQ
  refine WR.aO rfl (WR.exit (h0 _ _ ?_ ?_))
  ·rw[←e]
   exact tQ
  ·exact lQ
 |succ m ih=>
  intro i out hi ho e
  obtain⟨x,hp⟩:∃x,fs[i]? =some x:=⟨fs[i],List.getElem?_eq_getElem (by omega)⟩
  have hx:=hn x (List.mem_of_getElem? hp)
  rw[List.drop_eq_getElem_cons (by omega),show fs[i]=x from by rw[List.getElem?_eq_getElem (by omega)]at hp;exact Option.some.inj hp,List.map_cons]at e
  have ih:=ih (i+1) ((out++[44])++Pm.n x) (by omega) (by simp only[List.length_append,List.length_cons,List.length_nil];omega) e
  obtain⟨xn,xa,⟨xtk,xta,xtp,xtn,xtl⟩⟩:=x
  have hpe:(fs.map fC)[i]? =some (fC ⟨xn,xa,⟨xtk,xta,xtp,xtn,xtl⟩⟩):=by rw[List.getElem?_map,hp];rfl
  have hx:xn.length≤5000:=hx
  unfold wS
  refine WLr.of ?_
  repeat apply sQ
  refine WR.m 4 rfl ?_
  skip
  rw[List.length_map]
  refine WQ.m 1 rfl ?_
  rw[show decide ((i:Int)<(fs.length:Int))=true from decide_eq_true (by omega)]
  refine WQ.q rfl ?_
  repeat apply sQ
  refine WR.aD rfl (WR.skip ?_)
  repeat(first|refine WR.seq ?_|refine WR.block ?_)
  refine WR.m 1 rfl ?_
  refine WQ.bD rfl rfl rfl (eJ rfl rfl (by show out.length+1≤iE;unfold iE;omega) _) rfl (WQ.m 3 rfl ?_)
  skip
  refine WQ.bD rfl rfl rfl (gL (cs:=fC ⟨xn,xa,⟨xtk,xta,xtp,xtn,xtl⟩⟩) rfl rfl hpe rfl) rfl (WQ.m 2 rfl ?_)
  refine WQ.bD rfl rfl rfl (eJ rfl rfl (by rw[List.length_append];show out.length+1+xn.length≤iE;unfold iE;omega) _) rfl ?_
  refine WQ.q rfl ?_
  unfold aNs
  repeat apply sQ
  refine WR.m 2 rfl ?_
  rw[bI (by unfold big;omega)]
  refine WQ.q rfl ?_
  refine WIr.again (WLr.weak ?_ ih)
  refine SW.aM ?_ ?_
  ·exact tQ
  ·exact lQ
theorem bLc{QN:S→Prop}{QX:X→S→Prop}(f:FileX)(d:Dx)(hb:d.ms.length≤20000)(hn:∀x∈d.ms,(Mx.n x).length≤5000)(out0:List Nat)(j:Int)
  (h0:∀tm lc,TellT tm [(6,eX d)] [(1,.v (.ptr 1000 0)),(3,.v (.str (gF 44 (d.ms.map Mx.n) out0))),(5,.v (.int .i64 j)),(6,.l 6 0)]→TellL lc [(6,eX d)]→QX (.exit 6) (SL.toS ⟨tm,[],none,1001,fM f,lc⟩)):∀(m i:Nat) (out:List Nat),i+m=d.ms.length→out.length+m*5001≤9000000000000000→gF 44 ((d.ms.drop i).map Mx.n) out=gF 44 (d.ms.map Mx.n) out0→
  WLr Go.Proofs.Tryz.prog [] ⟨Go.Proofs.Tryz.f13.ntmps,none,13⟩ xH (SL.toS ⟨[(1,.v (.ptr 1000 0)),(3,.v (.str out)),(5,.v (.int .i64 j)),(6,.l 6 0),(8,.v (.int .i64 i))],[],none,1001,fM f,[(6,eX d)]⟩) QN QX:=by
 obtain⟨dk,da,de,dn,dmt,⟨rn,ra,⟨k1,b1,q1,m1,l1⟩⟩,bs,fs,ms,has,⟨k2,b2,q2,m2,l2⟩,body⟩:=d
 dsimp only at hb hn h0⊢
 intro m
 induction m with
 |zero=>
  intro i out hi ho e
  rw[List.drop_eq_nil_iff.2 (by omega)]at e
  have e:out=_:=e
  unfold xH
  refine WLr.of ?_
  repeat apply sQ
  refine WR.m 4 rfl ?_
  skip
  rw[List.length_map]
  refine WQ.m 1 rfl ?_
  rw[show decide ((i:Int)<(ms.length:Int))=false from decide_eq_false (by omega)]
  refine WQ.q rfl ?_
  repeat apply sQ
  refine WR.aO rfl (WR.exit (h0 _ _ ?_ ?_))
  ·rw[←e]
   exact tQ
  ·exact lQ
 |succ m ih=>
  intro i out hi ho e
  obtain⟨x,hp⟩:∃x,ms[i]? =some x:=⟨ms[i],List.getElem?_eq_getElem (by omega)⟩
  have hx:=hn x (List.mem_of_getElem? hp)
  rw[List.drop_eq_getElem_cons (by omega),show ms[i]=x from by rw[List.getElem?_eq_getElem (by omega)]at hp;exact Option.some.inj hp,List.map_cons]at e
  have ih:=ih (i+1) ((out++[44])++Mx.n x) (by omega) (by simp only[List.length_append,List.length_cons,List.length_nil];omega) e
  obtain⟨xn,xa,xps,xh,⟨xtk,xta,xtp,xtn,xtl⟩⟩:=x
  have hpe:(ms.map oI)[i]? =some (oI ⟨xn,xa,xps,xh,⟨xtk,xta,xtp,xtn,xtl⟩⟩):=by rw[List.getElem?_map,hp];rfl
  have hx:xn.length≤5000:=hx
  unfold xH
  refine WLr.of ?_
  repeat apply sQ
  refine WR.m 4 rfl ?_
  skip
  rw[List.length_map]
  refine WQ.m 1 rfl ?_
  rw[show decide ((i:Int)<(ms.length:Int))=true from decide_eq_true (by omega)]
  refine WQ.q rfl ?_
  repeat apply sQ
  refine WR.aD rfl (WR.skip ?_)
  repeat(first|refine WR.seq ?_|refine WR.block ?_)
  refine WR.m 1 rfl ?_
  refine WQ.bD rfl rfl rfl (eJ rfl rfl (by show out.length+1≤iE;unfold iE;omega) _) rfl (WQ.m 3 rfl ?_)
  skip
  refine WQ.bD rfl rfl rfl (gL (cs:=oI ⟨xn,xa,xps,xh,⟨xtk,xta,xtp,xtn,xtl⟩⟩) rfl rfl hpe rfl) rfl (WQ.m 2 rfl ?_)
  refine WQ.bD rfl rfl rfl (eJ rfl rfl (by rw[List.length_append];show out.length+1+xn.length≤iE;unfold iE;omega) _) rfl ?_
  refine WQ.q rfl ?_
  unfold aOl
  repeat apply sQ
  refine WR.m 2 rfl ?_
  rw[bI (by unfold big;omega)]
  refine WQ.q rfl ?_
  refine WIr.again (WLr.weak ?_ ih)
  refine SW.aM ?_ ?_
  ·exact tQ
  ·exact lQ
theorem bJa{QN:S→Prop}{QX:X→S→Prop}(f:FileX)(d:Dx)(hb:d.body.length≤20000)(hn:∀x∈d.body,(nmX x).length≤5000)(out0:List Nat)(j:Int)
  (h0:∀tm lc,TellT tm [(6,eX d)] [(1,.v (.ptr 1000 0)),(3,.v (.str (gF 46 (d.body.map nmX) out0))),(5,.v (.int .i64 j)),(6,.l 6 0)]→TellL lc [(6,eX d)]→QX (.exit 8) (SL.toS ⟨tm,[],none,1001,fM f,lc⟩)):∀(m i:Nat) (out:List Nat),i+m=d.body.length→out.length+m*5001≤9000000000000000→gF 46 ((d.body.drop i).map nmX) out=gF 46 (d.body.map nmX) out0→
  WLr Go.Proofs.Tryz.prog [] ⟨Go.Proofs.Tryz.f13.ntmps,none,13⟩ wU (SL.toS ⟨[(1,.v (.ptr 1000 0)),(3,.v (.str out)),(5,.v (.int .i64 j)),(6,.l 6 0),(9,.v (.int .i64 i))],[],none,1001,fM f,[(6,eX d)]⟩) QN QX:=by
 obtain⟨dk,da,de,dn,dmt,⟨rn,ra,⟨k1,b1,q1,m1,l1⟩⟩,bs,fs,ms,has,⟨k2,b2,q2,m2,l2⟩,body⟩:=d
 dsimp only at hb hn h0⊢
 intro m
 induction m with
 |zero=>
  intro i out hi ho e
  rw[List.drop_eq_nil_iff.2 (by omega)]at e
  have e:out=_:=e
  unfold wU
  refine WLr.of ?_
  repeat apply sQ
  refine WR.m 4 rfl ?_
  rw[lJ]
  rw[List.length_map]
  refine WQ.m 1 rfl ?_
  rw[show decide ((i:Int)<(body.length:Int))=false from decide_eq_false (by omega)]
  refine WQ.q rfl ?_
  repeat apply sQ
  refine WR.aO rfl (WR.exit (h0 _ _ ?_ ?_))
  ·rw[←e]
   exact tQ
  ·exact lQ
 |succ m ih=>
  intro i out hi ho e
  obtain⟨x,hp⟩:∃x,body[i]? =some x:=⟨body[i],List.getElem?_eq_getElem (by omega)⟩
  have hx:=hn x (List.mem_of_getElem? hp)
  rw[List.drop_eq_getElem_cons (by omega),show body[i]=x from by rw[List.getElem?_eq_getElem (by omega)]at hp;exact Option.some.inj hp,List.map_cons]at e
  have ih:=ih (i+1) ((out++[46])++nmX x) (by omega) (by simp only[List.length_append,List.length_cons,List.length_nil];omega) e
  obtain⟨xk,xa,xn,xh,⟨yk,ya,ye,yn,yv,⟨ytk,yta,ytp,ytn,ytl⟩,ys⟩,xb,xe⟩:=x
  have hpe:(body.map jZ)[i]? =some (jZ ⟨xk,xa,xn,xh,⟨yk,ya,ye,yn,yv,⟨ytk,yta,ytp,ytn,ytl⟩,ys⟩,xb,xe⟩):=by rw[List.getElem?_map,hp];rfl
  have hx:xn.length≤5000:=hx
  unfold wU
  refine WLr.of ?_
  repeat apply sQ
  refine WR.m 4 rfl ?_
  rw[lJ]
  rw[List.length_map]
  refine WQ.m 1 rfl ?_
  rw[show decide ((i:Int)<(body.length:Int))=true from decide_eq_true (by omega)]
  refine WQ.q rfl ?_
  repeat apply sQ
  refine WR.aD rfl (WR.skip ?_)
  repeat(first|refine WR.seq ?_|refine WR.block ?_)
  refine WR.m 1 rfl ?_
  refine WQ.bD rfl rfl rfl (eJ rfl rfl (by show out.length+1≤iE;unfold iE;omega) _) rfl (WQ.m 3 rfl ?_)
  rw[lJ]
  refine WQ.bD rfl rfl rfl (gL (cs:=jZ ⟨xk,xa,xn,xh,⟨yk,ya,ye,yn,yv,⟨ytk,yta,ytp,ytn,ytl⟩,ys⟩,xb,xe⟩) rfl rfl hpe rfl) rfl (WQ.m 2 rfl ?_)
  refine WQ.bD rfl rfl rfl (eJ rfl rfl (by rw[List.length_append];show out.length+1+xn.length≤iE;unfold iE;omega) _) rfl ?_
  refine WQ.q rfl ?_
  unfold aOa
  repeat apply sQ
  refine WR.m 2 rfl ?_
  rw[bI (by unfold big;omega)]
  refine WQ.q rfl ?_
  refine WIr.again (WLr.weak ?_ ih)
  refine SW.aM ?_ ?_
  ·exact tQ
  ·exact lQ
theorem bMa{QN:S→Prop}{QX:X→S→Prop}(f:FileX)(hb:f.is.length≤20000)(hn:∀x∈f.is,x.n.length≤5000)(out0:List Nat)
  (h0:∀tm,TellT tm [] [(1,.v (.ptr 1000 0)),(3,.v (.str (gF 32 (f.is.map Im.n) out0)))]→QX (.exit 0) (SL.toS ⟨tm,[],none,1001,fM f,[]⟩)):∀(m i:Nat) (out:List Nat),i+m=f.is.length→out.length+m*5001≤9000000000000000→gF 32 ((f.is.drop i).map Im.n) out=gF 32 (f.is.map Im.n) out0→
  WLr Go.Proofs.Tryz.prog [] ⟨Go.Proofs.Tryz.f13.ntmps,none,13⟩ xG (SL.toS ⟨[(1,.v (.ptr 1000 0)),(3,.v (.str out)),(4,.v (.int .i64 i))],[],none,1001,fM f,[]⟩) QN QX:=by
 obtain⟨fn,fa,is,ds⟩:=f
 dsimp only at hb hn h0⊢
 intro m
 induction m with
 |zero=>
  intro i out hi ho e
  rw[List.drop_eq_nil_iff.2 (by omega)]at e
  have e:out=_:=e
  unfold xG
  refine WLr.of ?_
  repeat apply sQ
  refine WR.m 4 rfl ?_
  rw[List.length_map]
  refine WQ.m 1 rfl ?_
  rw[show decide ((i:Int)<(is.length:Int))=false from decide_eq_false (by omega)]
  refine WQ.q rfl ?_
  repeat apply sQ
  refine WR.aO rfl (WR.exit (h0 _ ?_))
  rw[←e]
  exact tQ
 |succ m ih=>
  intro i out hi ho e
  obtain⟨x,hp⟩:∃x,is[i]? =some x:=⟨is[i],List.getElem?_eq_getElem (by omega)⟩
  have hx:=hn x (List.mem_of_getElem? hp)
  rw[List.drop_eq_getElem_cons (by omega),show is[i]=x from by rw[List.getElem?_eq_getElem (by omega)]at hp;exact Option.some.inj hp,List.map_cons]at e
  have ih:=ih (i+1) ((out++[32])++x.n) (by omega) (by simp only[List.length_append,List.length_cons,List.length_nil];omega) e
  obtain⟨xn,xa⟩:=x
  have hpe:(is.map kB)[i]? =some (kB ⟨xn,xa⟩):=by rw[List.getElem?_map,hp];rfl
  have hx:xn.length≤5000:=hx
  unfold xG
  refine WLr.of ?_
  repeat apply sQ
  refine WR.m 4 rfl ?_
  rw[List.length_map]
  refine WQ.m 1 rfl ?_
  rw[show decide ((i:Int)<(is.length:Int))=true from decide_eq_true (by omega)]
  refine WQ.q rfl ?_
  repeat apply sQ
  refine WR.aD rfl (WR.skip ?_)
  repeat(first|refine WR.seq ?_|refine WR.block ?_)
  refine WR.m 1 rfl ?_
  refine WQ.bD rfl rfl rfl (eJ rfl rfl (by show out.length+1≤iE;unfold iE;omega) _) rfl (WQ.m 3 rfl ?_)
  refine WQ.bD rfl rfl rfl (gL (cs:=kB ⟨xn,xa⟩) rfl rfl hpe rfl) rfl (WQ.m 2 rfl ?_)
  refine WQ.bD rfl rfl rfl (eJ rfl rfl (by rw[List.length_append];show out.length+1+xn.length≤iE;unfold iE;omega) _) rfl ?_
  refine WQ.q rfl ?_
  unfold aMz
  repeat apply sQ
  refine WR.m 2 rfl ?_
  rw[bI (by unfold big;omega)]
  refine WQ.q rfl ?_
  refine WIr.again (WLr.weak ?_ ih)
  refine SW.aM ?_ ?_
  ·exact tQ
  ·exact lQ
theorem aXz{d:Dx}(h:smD 5000 d)(out:List Nat):(gF 44 (d.fs.map Pm.n) (((out++[59])++d.n)++d.rv.n)).length≤out.length+10001+100020000∧(gF 44 (d.ms.map Mx.n) (gF 44 (d.fs.map Pm.n) (((out++[59])++d.n)++d.rv.n))).length≤out.length+10001+200040000∧(zK out d).length≤out.length+400000000:=by
 have len:∀{α:Type} (g:α→List Nat) (l:List α),(∀x∈l,(g x).length≤5000)→∀n∈l.map g,n.length≤5000:=by
  intro α g l hl n hn
  obtain⟨y,hy,rfl⟩:=List.mem_map.1 hn
  exact hl y hy
 have a1:=oS 44 5000 (d.fs.map Pm.n) (((out++[59])++d.n)++d.rv.n) (len _ _ h.fs)
 have a2:=oS 44 5000 (d.ms.map Mx.n) (gF 44 (d.fs.map Pm.n) (((out++[59])++d.n)++d.rv.n)) (len _ _ h.ms)
 have a3:=oS 46 5000 (d.body.map nmX) (gF 44 (d.ms.map Mx.n) (gF 44 (d.fs.map Pm.n) (((out++[59])++d.n)++d.rv.n))) (len _ _ h.body)
 simp only[List.length_map,List.length_append,List.length_cons,List.length_nil]at a1 a2 a3
 have b1:=h.n;have b2:=h.rv;have b3:=h.fl;have b4:=h.ml;have b5:=h.bl
 refine⟨by omega,by omega,?_⟩
 unfold zK
 omega
theorem bKf{QN:S→Prop}{QX:X→S→Prop}(f:FileX)(hb:f.ds.length≤20000)(hn:∀x∈f.ds,smD 5000 x)(R0:List Nat)
  (h0:∀tm,TellT tm [] [(3,.v (.str R0))]→QX (.exit 2) (SL.toS ⟨tm,[],none,1001,fM f,[]⟩)):∀(m j:Nat) (out:List Nat),j+m=f.ds.length→out.length+m*400000000≤8500000000000000→(f.ds.drop j).foldl zK out=R0→
  WLr Go.Proofs.Tryz.prog [] ⟨Go.Proofs.Tryz.f13.ntmps,none,13⟩ wQ (SL.toS ⟨[(1,.v (.ptr 1000 0)),(3,.v (.str out)),(5,.v (.int .i64 j))],[],none,1001,fM f,[]⟩) QN QX:=by
 intro m
 induction m with
 |zero=>
  intro j out hj ho e
  rw[List.drop_eq_nil_iff.2 (by omega)]at e
  have e:out=R0:=e
  subst e
  obtain⟨fn,fa,is,ds⟩:=f
  have hj:j+0=ds.length:=hj
  unfold wQ
  refine WLr.of ?_
  repeat apply sQ
  refine WR.m 4 rfl ?_
  rw[List.length_map]
  refine WQ.m 1 rfl ?_
  rw[show decide ((j:Int)<(ds.length:Int))=false from decide_eq_false (by omega)]
  refine WQ.q rfl ?_
  repeat apply sQ
  refine WR.aO rfl (WR.exit (h0 _ ?_))
  exact tQ
 |succ m ih=>
  intro j out hj ho e
  obtain⟨d,hp⟩:∃d,f.ds[j]? =some d:=⟨f.ds[j],List.getElem?_eq_getElem (by omega)⟩
  have hd:=hn d (List.mem_of_getElem? hp)
  obtain⟨c1,c2,c3⟩:=aXz hd out
  rw[List.drop_eq_getElem_cons (by omega),show f.ds[j]=d from by rw[List.getElem?_eq_getElem (by omega)]at hp;exact Option.some.inj hp,List.foldl_cons]at e
  have ih:=ih (j+1) (zK out d) (by omega) (by omega) e
  have w2:=fun QN QX h0=>bKj (QN:=QN) (QX:=QX) f d hd.fl hd.fs (((out++[59])++d.n)++d.rv.n) j h0 d.fs.length 0 (((out++[59])++d.n)++d.rv.n) (by omega) (by have:=hd.n;have:=hd.rv;have:=hd.fl;simp only[List.length_append,List.length_cons,List.length_nil];omega) rfl
  have w3:=fun QN QX h0=>bLc (QN:=QN) (QX:=QX) f d hd.ml hd.ms (gF 44 (d.fs.map Pm.n) (((out++[59])++d.n)++d.rv.n)) j h0 d.ms.length 0 (gF 44 (d.fs.map Pm.n) (((out++[59])++d.n)++d.rv.n)) (by omega) (by have:=hd.ml;omega) rfl
  have w4:=fun QN QX h0=>bJa (QN:=QN) (QX:=QX) f d hd.bl hd.body (gF 44 (d.ms.map Mx.n) (gF 44 (d.fs.map Pm.n) (((out++[59])++d.n)++d.rv.n))) j h0 d.body.length 0 (gF 44 (d.ms.map Mx.n) (gF 44 (d.fs.map Pm.n) (((out++[59])++d.n)++d.rv.n))) (by omega) (by have:=hd.bl;omega) rfl
  unfold zK at ih
  have hdn:=hd.n;have hdr:=hd.rv
  clear hd c1 c2 c3 e
  obtain⟨fn,fa,is,ds⟩:=f
  obtain⟨dk,da,de,dn,dmt,⟨rn,ra,⟨k1,b1,q1,m1,l1⟩⟩,bs,fs,ms,has,⟨k2,b2,q2,m2,l2⟩,body⟩:=d
  have hj:j+(m+1)=ds.length:=hj
  have hp:ds[j]? =some ⟨dk,da,de,dn,dmt,⟨rn,ra,⟨k1,b1,q1,m1,l1⟩⟩,bs,fs,ms,has,⟨k2,b2,q2,m2,l2⟩,body⟩:=hp
  dsimp only at hdn hdr w2 w3 w4 ih
  have hpe:(ds.map eX)[j]? =some (eX ⟨dk,da,de,dn,dmt,⟨rn,ra,⟨k1,b1,q1,m1,l1⟩⟩,bs,fs,ms,has,⟨k2,b2,q2,m2,l2⟩,body⟩):=by rw[List.getElem?_map,hp];rfl
  unfold wQ
  refine WLr.of ?_
  repeat apply sQ
  refine WR.m 4 rfl ?_
  rw[List.length_map]
  refine WQ.m 1 rfl ?_
  rw[show decide ((j:Int)<(ds.length:Int))=true from decide_eq_true (by omega)]
  refine WQ.q rfl ?_
  repeat apply sQ
  refine WR.aD rfl (WR.skip ?_)
  repeat(first|refine WR.seq ?_|refine WR.block ?_)
  refine WR.m 3 rfl ?_
  refine WQ.bD rfl rfl rfl (gL (cs:=eX ⟨dk,da,de,dn,dmt,⟨rn,ra,⟨k1,b1,q1,m1,l1⟩⟩,bs,fs,ms,has,⟨k2,b2,q2,m2,l2⟩,body⟩) rfl rfl hpe rfl) rfl ?_
  refine WQ.q rfl ?_
  repeat apply sQ
  refine WR.m 1 rfl ?_
  refine WQ.bD rfl rfl rfl (eJ rfl rfl (by show out.length+1≤iE;unfold iE;omega) _) rfl (WQ.m 2 rfl ?_)
  refine WQ.bD rfl rfl rfl (eJ rfl rfl (by rw[List.length_append];show out.length+1+dn.length≤iE;unfold iE;omega) _) rfl (WQ.m 3 rfl ?_)
  refine WQ.bD rfl rfl rfl (eJ rfl rfl (by rw[List.length_append,List.length_append];show out.length+1+dn.length+rn.length≤iE;unfold iE;omega) _) rfl ?_
  refine WQ.q rfl ?_
  repeat apply sQ
  refine WR.q rfl ?_
  repeat(first|refine WR.seq ?_|refine WR.block ?_)
  refine WR.loop (WLr.weak ?_ (w2 _ _ (fun tm lc htm hlc=>?_)))
  ·refine SW.aM ?_ ?_
   ·exact tQ
   ·exact lQ
  refine WR.weak (SW.aM htm hlc) ?_
  unfold aPm
  repeat apply sQ
  refine WR.q rfl ?_
  repeat(first|refine WR.seq ?_|refine WR.block ?_)
  refine WR.loop (WLr.weak ?_ (w3 _ _ (fun tm lc htm hlc=>?_)))
  ·refine SW.aM ?_ ?_
   ·exact tQ
   ·exact lQ
  refine WR.weak (SW.aM htm hlc) ?_
  unfold aPk
  repeat apply sQ
  refine WR.q rfl ?_
  repeat(first|refine WR.seq ?_|refine WR.block ?_)
  refine WR.loop (WLr.weak ?_ (w4 _ _ (fun tm lc htm hlc=>?_)))
  ·refine SW.aM ?_ ?_
   ·exact tQ
   ·exact lQ
  refine WR.weak (SW.aM htm hlc) ?_
  unfold aNq
  repeat apply sQ
  refine WR.m 2 rfl ?_
  rw[bI (by unfold big;omega)]
  refine WQ.q rfl ?_
  refine WIr.again (WLr.weak ?_ ih)
  refine SW.aM ?_ ?_
  ·exact tQ
  ·exact lQ
theorem aOw(f:FileX)(h:smF 5000 f)(m:H):SCall Go.Proofs.Tryz.prog [] 13 [qY f] none m (.ret (.str (rC f))) none m:=by
 refine SCall.fL rfl ?_ (by exact⟨jO f,trivial⟩) (by exact trivial) m
 have l0:=oS 32 5000 (f.is.map Im.n) f.n (fun n hn=>by obtain⟨y,hy,rfl⟩:=List.mem_map.1 hn;exact h.is y hy)
 rw[List.length_map]at l0
 have h1:=h.n;have h2:=h.il;have h3:=h.dl
 have l1:=fun QN QX h0=>bMa (QN:=QN) (QX:=QX) f h.il h.is f.n h0 f.is.length 0 f.n (by omega) (by omega) rfl
 have l5:=fun QN QX h0=>bKf (QN:=QN) (QX:=QX) f h.dl h.ds (rC f) h0 f.ds.length 0 (gF 32 (f.is.map Im.n) f.n) (by omega) (by omega) rfl
 generalize hR:rC f=R0 at l5
 generalize hO:gF 32 (f.is.map Im.n) f.n=O at l1 l5
 clear hR hO l0 h1 h2 h3
 obtain⟨fn,fa,is,ds⟩:=f
 refine SCall.listed (fn:=Go.Proofs.Tryz.f13) (by kernel_rfl) bJm (by kernel_rfl) (by kernel_rfl) (Nat.le_refl _) rfl (trivial) trivial ?_
 unfold bMk
 repeat apply sQ
 refine WR.reg (WQ.aG [1] 1000 _ _ _ _ rfl (WQ.aJ ?_))
 repeat apply sQ
 refine WR.q rfl ?_
 repeat apply sQ
 refine WR.q rfl ?_
 repeat(first|refine WR.seq ?_|refine WR.block ?_)
 refine WR.loop (WLr.weak ?_ (l1 _ _ (fun tm htm=>?_)))
 ·refine SW.aM ?_ ?_
  ·exact tQ
  ·exact lQ
 refine WR.weak (SW.aM htm .nil) ?_
 unfold aMo
 repeat apply sQ
 refine WR.q rfl ?_
 repeat(first|refine WR.seq ?_|refine WR.block ?_)
 refine WR.loop (WLr.weak ?_ (l5 _ _ (fun tm htm=>?_)))
 ·refine SW.aM ?_ ?_
  ·exact tQ
  ·exact lQ
 refine WR.weak (SW.aM htm .nil) ?_
 unfold aPf
 repeat apply sQ
 refine WR.q rfl ?_
 exact WR.ret ⟨rfl,rfl,⟨_,rfl,VLe.refl _⟩,fun b hb=>aDy b hb⟩
end Go.VM
end
