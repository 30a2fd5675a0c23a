/- laid for this seat: VqM VqN VqO -/
import Derived.Test.YtipiffhjilidlaaGreatDoorVh2
set_option linter.unusedVariables false
set_option linter.unusedSimpArgs false
section
/- The document's expressions: primaries: what is made new; all of them. -/
set_option maxRecDepth 100000
namespace Go.VM
open Go.RowKit
theorem aGv(l:List Tz)(k p c:Int)(hc:c≠0)(d:Nat):lB l ⟨k,p,c⟩ d=⟨k,p,c⟩:=by
 unfold lB
 split
 ·exact wN l k p c 6 hc
 ·rfl
theorem aFv(l:List Tz)(hl:l.length<4294967296)(k p c:Int)(hc:c≠0)(op to:List Nat)(d:Nat):SCall Go.Proofs.Tryz.prog [] 69 (.ptr 1000 0::[.str op,.str to,.int .i64 d]) none ⟨1001,og (rrL l ⟨k,p,c⟩),[]⟩ (.ret (iU ([],0))) none ⟨1001,og (rrL l ⟨k,p,c⟩),[]⟩:=by
 have oa:=dM hl (s:=⟨k,p,c⟩) (d:=d) (h:=⟨1001,og (rrL l ⟨k,p,c⟩),[]⟩) (R:=1000) (by decide) rfl
 rw[aGv l k p c hc]at oa
 refine SCall.aG (fn:=Go.Proofs.Tryz.f69) (by kernel_rfl) xL (by kernel_rfl) (by kernel_rfl) (Nat.le_refl _) rfl ((aX _ _)) (by exact dL _) ?_
 unfold aGi
 repeat apply sQ
 refine WR.q rfl ?_
 repeat apply sQ
 refine WR.m 2 rfl ?_
 refine WQ.c rfl oa (.put .base rfl) rfl ?_
 rw[show decide ((⟨k,p,c⟩:Rk).c=0)=false from decide_eq_false hc]
 refine WQ.q rfl ?_
 repeat apply sQ
 refine WR.q rfl ?_
 repeat apply sQ
 refine WR.aB rfl ?_
 repeat apply sQ
 refine WR.q rfl ?_
 exact WR.e
section
variable(l:List Tz)(hl:l.length<20000)(n:Nat)(hs:∀m,m<n+1→SpecR l (fns l m))(a d:Nat)(hd:d≤30)(h2:decide ((aA l a).k=2)=false)(h3:decide ((aA l a).k=3)=false)
variable(h4:isF l a 5 [116,114,117,101]=false)(h5:isF l a 5 [102,97,108,115,101]=false)(h6:decide ((aA l a).k=1)=false)(h7:isF l a 4 [40]=false)
include hl hs hd h2 h3 h4 h5 h6 h7
theorem aMr(h8:isF l a 5 [110,101,119]=true):SpR 68 [.int .i64 d] l a cF (bZ l (fns l n) a d):=by
 have hl':l.length<4294967296:=by omega
 have hI:cX l (live a).k=aA l a:=bJ l a
 have hla:=bB h8 (by decide)
 have e:bZ l (fns l n) a d=nV l (fns l n) (aA l a).a a d:=by
  unfold bZ qZ nX aRn;first|(rw[h2,h3,h4,h5,h6,h7,h8];done)|(rw[h2,h3,h4,h5,h6,h7,h8];rfl)
 rw[e]
 unfold nV
 have ts:=aFg l hl' (a+1) (by omega)
 cases ht:tyF l (a+1)with
 |out=>exact trivial
 |er a1 d1 p c=>
  rw[ht]at ts
  have hc:=(aFm ht).1
  obtain⟨v,k,sc⟩:=SpR.erA ts trivial (fun v=>oO v)
  obtain⟨vk,va,vp,vn,vl⟩:=v
  show ∃(v:Ex) (k:Int),SCall Go.Proofs.Tryz.prog [] 68 (.ptr 1000 0::[.int .i64 d]) none ⟨1001,og (rrL l (live a)),[]⟩ (.ret (cF v)) none ⟨1001,og (rrL l ⟨k,p,c⟩),[]⟩
  cases hb:isI l k 4 [123]with
  |false=>
   refine⟨.mk 8 (aA l a).a (aA l a).e [] 0 (.mk vk va vp vn vl) [],k,?_⟩
   refine SCall.aG (fn:=Go.Proofs.Tryz.f68) (by kernel_rfl) iX (by kernel_rfl) (by kernel_rfl) (Nat.le_refl _) rfl ((aX _ _)) (by exact aI _) ?_
   unfold oC
   repeat apply sQ
   refine WR.q rfl ?_
   repeat apply sQ
   refine WR.m 1 rfl ?_
   refine WQ.c rfl (bO hl' (s:=live a) (by decide) rfl) .base rfl ?_
   rw[hI]
   refine WQ.q rfl ?_
   repeat apply sQ
   refine WR.q rfl ?_
   repeat apply sQ
   refine WR.m 1 rfl ?_
   refine WQ.c rfl (aM hl' (s:=live a) (x:=[116,114,117,101]) (by decide) rfl) .base rfl ?_
   rw[aC]
   refine WQ.q rfl ?_
   repeat apply sQ
   refine WR.m 1 rfl ?_
   refine WQ.c rfl (aM hl' (s:=live a) (x:=[102,97,108,115,101]) (by decide) rfl) .base rfl ?_
   rw[aC]
   refine WQ.q rfl ?_
   repeat apply sQ
   refine WR.m 1 rfl ?_
   refine WQ.c rfl (aM hl' (s:=live a) (x:=[110,101,119]) (by decide) rfl) .base rfl ?_
   rw[aC]
   refine WQ.q rfl ?_
   repeat apply sQ
   refine WR.m 1 rfl ?_
   refine WQ.c rfl (aU hl' (s:=live a) (x:=[40]) (by decide) rfl) .base rfl ?_
   rw[aC]
   refine WQ.q rfl ?_
   repeat(first|refine WR.seq ?_|refine WR.block ?_)
   refine WR.m 2 rfl ?_
   refine WQ.m 1 rfl ?_
   rw[h2]
   refine WQ.q rfl ?_
   refine WR.aF rfl ?_
   repeat apply sQ
   refine WR.m 2 rfl ?_
   refine WQ.m 1 rfl ?_
   rw[h3]
   refine WQ.q rfl ?_
   refine WR.aF rfl ?_
   repeat apply sQ
   rw[h4,h5]
   refine WR.q rfl ?_
   refine WR.aF rfl ?_
   repeat apply sQ
   refine WR.m 2 rfl ?_
   refine WQ.m 1 rfl ?_
   rw[h6]
   refine WQ.q rfl ?_
   refine WR.aF rfl ?_
   repeat apply sQ
   rw[h7]
   refine WR.q rfl ?_
   refine WR.aF rfl ?_
   repeat apply sQ
   rw[h8]
   refine WR.q rfl ?_
   repeat apply sQ
   refine WR.aB rfl ?_
   repeat apply sQ
   refine WR.m 5 rfl ?_
   rw[show IntKind.i64.wrap ((live a).k+1)=(live (a+1)).k from aN (by unfold big;omega)]
   refine WQ.q rfl ?_
   repeat apply sQ
   refine WR.q rfl ?_
   repeat apply sQ
   refine WR.m 1 rfl ?_
   refine WQ.c rfl (sc (by decide) rfl) (.put .base rfl) rfl ?_
   refine WQ.q rfl ?_
   repeat apply sQ
   refine WR.m 2 rfl ?_
   refine WQ.c rfl (aU hl' (s:=⟨k,p,c⟩) (x:=[123]) (by decide) rfl) .base rfl ?_
   rw[show isI l (⟨k,p,c⟩:Rk).k 4 [123]=false from hb]
   refine WQ.q rfl ?_
   repeat apply sQ
   refine WR.q rfl ?_
   repeat apply sQ
   refine WR.aB rfl ?_
   repeat apply sQ
   refine WR.m 1 rfl ?_
   refine WQ.c rfl (dX hl' (s:=⟨k,p,c⟩) (c:=5) (by decide) rfl) (.put .base rfl) rfl ?_
   rw[wN l k p c 5 hc]
   refine WQ.q rfl ?_
   repeat apply sQ
   refine WR.q rfl ?_
   exact WR.e
  |true=>
   refine⟨.mk 8 (aA l a).a 0 [] 0 (.mk vk va vp vn vl) [],k,?_⟩
   refine SCall.aG (fn:=Go.Proofs.Tryz.f68) (by kernel_rfl) iX (by kernel_rfl) (by kernel_rfl) (Nat.le_refl _) rfl ((aX _ _)) (by exact aI _) ?_
   unfold oC
   repeat apply sQ
   refine WR.q rfl ?_
   repeat apply sQ
   refine WR.m 1 rfl ?_
   refine WQ.c rfl (bO hl' (s:=live a) (by decide) rfl) .base rfl ?_
   rw[hI]
   refine WQ.q rfl ?_
   repeat apply sQ
   refine WR.q rfl ?_
   repeat apply sQ
   refine WR.m 1 rfl ?_
   refine WQ.c rfl (aM hl' (s:=live a) (x:=[116,114,117,101]) (by decide) rfl) .base rfl ?_
   rw[aC]
   refine WQ.q rfl ?_
   repeat apply sQ
   refine WR.m 1 rfl ?_
   refine WQ.c rfl (aM hl' (s:=live a) (x:=[102,97,108,115,101]) (by decide) rfl) .base rfl ?_
   rw[aC]
   refine WQ.q rfl ?_
   repeat apply sQ
   refine WR.m 1 rfl ?_
   refine WQ.c rfl (aM hl' (s:=live a) (x:=[110,101,119]) (by decide) rfl) .base rfl ?_
   rw[aC]
   refine WQ.q rfl ?_
   repeat apply sQ
   refine WR.m 1 rfl ?_
   refine WQ.c rfl (aU hl' (s:=live a) (x:=[40]) (by decide) rfl) .base rfl ?_
   rw[aC]
   refine WQ.q rfl ?_
   repeat(first|refine WR.seq ?_|refine WR.block ?_)
   refine WR.m 2 rfl ?_
   refine WQ.m 1 rfl ?_
   rw[h2]
   refine WQ.q rfl ?_
   refine WR.aF rfl ?_
   repeat apply sQ
   refine WR.m 2 rfl ?_
   refine WQ.m 1 rfl ?_
   rw[h3]
   refine WQ.q rfl ?_
   refine WR.aF rfl ?_
   repeat apply sQ
   rw[h4,h5]
   refine WR.q rfl ?_
   refine WR.aF rfl ?_
   repeat apply sQ
   refine WR.m 2 rfl ?_
   refine WQ.m 1 rfl ?_
   rw[h6]
   refine WQ.q rfl ?_
   refine WR.aF rfl ?_
   repeat apply sQ
   rw[h7]
   refine WR.q rfl ?_
   refine WR.aF rfl ?_
   repeat apply sQ
   rw[h8]
   refine WR.q rfl ?_
   repeat apply sQ
   refine WR.aB rfl ?_
   repeat apply sQ
   refine WR.m 5 rfl ?_
   rw[show IntKind.i64.wrap ((live a).k+1)=(live (a+1)).k from aN (by unfold big;omega)]
   refine WQ.q rfl ?_
   repeat apply sQ
   refine WR.q rfl ?_
   repeat apply sQ
   refine WR.m 1 rfl ?_
   refine WQ.c rfl (sc (by decide) rfl) (.put .base rfl) rfl ?_
   refine WQ.q rfl ?_
   repeat apply sQ
   refine WR.m 2 rfl ?_
   refine WQ.c rfl (aU hl' (s:=⟨k,p,c⟩) (x:=[123]) (by decide) rfl) .base rfl ?_
   rw[show isI l (⟨k,p,c⟩:Rk).k 4 [123]=true from hb]
   refine WQ.q rfl ?_
   repeat apply sQ
   refine WR.q rfl ?_
   repeat apply sQ
   refine WR.k rfl ?_
   repeat apply sQ
   refine WR.m 2 rfl ?_
   refine WQ.c rfl (gX (aFv l hl' k p c hc [123] [125] d) (by exact⟨trivial,trivial,trivial,trivial⟩) (dL _) (by decide) rfl) (.put .base rfl) rfl ?_
   refine WQ.q rfl ?_
   repeat apply sQ
   refine WR.q rfl ?_
   repeat apply sQ
   refine WR.q rfl ?_
   repeat apply sQ
   refine WR.q rfl ?_
   exact WR.e
 |ok ty a1=>
  rw[ht]at ts
  have hf:=qU ht
  obtain⟨vk,va,vp,vn,vl⟩:=ty
  cases hb:isF l a1 4 [123]with
  |false=>
   simp only[hb]
   show SpR _ _ _ _ _ (fN l a1 d 5)
   refine⟨.mk 8 (aA l a).a (aA l a).e [] 0 (.mk vk va vp vn vl) [],a1,?_⟩
   refine SCall.aG (fn:=Go.Proofs.Tryz.f68) (by kernel_rfl) iX (by kernel_rfl) (by kernel_rfl) (Nat.le_refl _) rfl ((aX _ _)) (by exact aI _) ?_
   unfold oC
   repeat apply sQ
   refine WR.q rfl ?_
   repeat apply sQ
   refine WR.m 1 rfl ?_
   refine WQ.c rfl (bO hl' (s:=live a) (by decide) rfl) .base rfl ?_
   rw[hI]
   refine WQ.q rfl ?_
   repeat apply sQ
   refine WR.q rfl ?_
   repeat apply sQ
   refine WR.m 1 rfl ?_
   refine WQ.c rfl (aM hl' (s:=live a) (x:=[116,114,117,101]) (by decide) rfl) .base rfl ?_
   rw[aC]
   refine WQ.q rfl ?_
   repeat apply sQ
   refine WR.m 1 rfl ?_
   refine WQ.c rfl (aM hl' (s:=live a) (x:=[102,97,108,115,101]) (by decide) rfl) .base rfl ?_
   rw[aC]
   refine WQ.q rfl ?_
   repeat apply sQ
   refine WR.m 1 rfl ?_
   refine WQ.c rfl (aM hl' (s:=live a) (x:=[110,101,119]) (by decide) rfl) .base rfl ?_
   rw[aC]
   refine WQ.q rfl ?_
   repeat apply sQ
   refine WR.m 1 rfl ?_
   refine WQ.c rfl (aU hl' (s:=live a) (x:=[40]) (by decide) rfl) .base rfl ?_
   rw[aC]
   refine WQ.q rfl ?_
   repeat(first|refine WR.seq ?_|refine WR.block ?_)
   refine WR.m 2 rfl ?_
   refine WQ.m 1 rfl ?_
   rw[h2]
   refine WQ.q rfl ?_
   refine WR.aF rfl ?_
   repeat apply sQ
   refine WR.m 2 rfl ?_
   refine WQ.m 1 rfl ?_
   rw[h3]
   refine WQ.q rfl ?_
   refine WR.aF rfl ?_
   repeat apply sQ
   rw[h4,h5]
   refine WR.q rfl ?_
   refine WR.aF rfl ?_
   repeat apply sQ
   refine WR.m 2 rfl ?_
   refine WQ.m 1 rfl ?_
   rw[h6]
   refine WQ.q rfl ?_
   refine WR.aF rfl ?_
   repeat apply sQ
   rw[h7]
   refine WR.q rfl ?_
   refine WR.aF rfl ?_
   repeat apply sQ
   rw[h8]
   refine WR.q rfl ?_
   repeat apply sQ
   refine WR.aB rfl ?_
   repeat apply sQ
   refine WR.m 5 rfl ?_
   rw[show IntKind.i64.wrap ((live a).k+1)=(live (a+1)).k from aN (by unfold big;omega)]
   refine WQ.q rfl ?_
   repeat apply sQ
   refine WR.q rfl ?_
   repeat apply sQ
   refine WR.m 1 rfl ?_
   refine WQ.c rfl (SpR.okA ts trivial (oO _) (by decide) rfl) (.put .base rfl) rfl ?_
   refine WQ.q rfl ?_
   repeat apply sQ
   refine WR.m 2 rfl ?_
   refine WQ.c rfl (aU hl' (s:=live a1) (x:=[123]) (by decide) rfl) .base rfl ?_
   rw[aC,hb]
   refine WQ.q rfl ?_
   repeat apply sQ
   refine WR.q rfl ?_
   repeat apply sQ
   refine WR.aB rfl ?_
   repeat apply sQ
   refine WR.m 1 rfl ?_
   refine WQ.c rfl (dX hl' (s:=live a1) (c:=5) (by decide) rfl) (.put .base rfl) rfl ?_
   rw[fZ]
   refine WQ.q rfl ?_
   repeat apply sQ
   refine WR.q rfl ?_
   exact WR.e
  |true=>
   have sp:=(hs n (by omega)).list [123] [125] a1 d (bB hb (by decide)) hd
   simp only[hb]
   show SpR _ _ _ _ _ (((fns l n).list [125] a1 d).bind _)
   cases hx:(fns l n).list [125] a1 d with
   |out=>exact trivial
   |er a2 d2 p c=>
    rw[hx]at sp
    obtain⟨⟨es,en⟩,k,hes,sc⟩:=SpL.erA sp (by exact⟨trivial,trivial,trivial,trivial⟩)
    refine⟨.mk 8 (aA l a).a en [] 0 (.mk vk va vp vn vl) es,k,?_⟩
    refine SCall.aG (fn:=Go.Proofs.Tryz.f68) (by kernel_rfl) iX (by kernel_rfl) (by kernel_rfl) (Nat.le_refl _) rfl ((aX _ _)) (by exact aI _) ?_
    unfold oC
    repeat apply sQ
    refine WR.q rfl ?_
    repeat apply sQ
    refine WR.m 1 rfl ?_
    refine WQ.c rfl (bO hl' (s:=live a) (by decide) rfl) .base rfl ?_
    rw[hI]
    refine WQ.q rfl ?_
    repeat apply sQ
    refine WR.q rfl ?_
    repeat apply sQ
    refine WR.m 1 rfl ?_
    refine WQ.c rfl (aM hl' (s:=live a) (x:=[116,114,117,101]) (by decide) rfl) .base rfl ?_
    rw[aC]
    refine WQ.q rfl ?_
    repeat apply sQ
    refine WR.m 1 rfl ?_
    refine WQ.c rfl (aM hl' (s:=live a) (x:=[102,97,108,115,101]) (by decide) rfl) .base rfl ?_
    rw[aC]
    refine WQ.q rfl ?_
    repeat apply sQ
    refine WR.m 1 rfl ?_
    refine WQ.c rfl (aM hl' (s:=live a) (x:=[110,101,119]) (by decide) rfl) .base rfl ?_
    rw[aC]
    refine WQ.q rfl ?_
    repeat apply sQ
    refine WR.m 1 rfl ?_
    refine WQ.c rfl (aU hl' (s:=live a) (x:=[40]) (by decide) rfl) .base rfl ?_
    rw[aC]
    refine WQ.q rfl ?_
    repeat(first|refine WR.seq ?_|refine WR.block ?_)
    refine WR.m 2 rfl ?_
    refine WQ.m 1 rfl ?_
    rw[h2]
    refine WQ.q rfl ?_
    refine WR.aF rfl ?_
    repeat apply sQ
    refine WR.m 2 rfl ?_
    refine WQ.m 1 rfl ?_
    rw[h3]
    refine WQ.q rfl ?_
    refine WR.aF rfl ?_
    repeat apply sQ
    rw[h4,h5]
    refine WR.q rfl ?_
    refine WR.aF rfl ?_
    repeat apply sQ
    refine WR.m 2 rfl ?_
    refine WQ.m 1 rfl ?_
    rw[h6]
    refine WQ.q rfl ?_
    refine WR.aF rfl ?_
    repeat apply sQ
    rw[h7]
    refine WR.q rfl ?_
    refine WR.aF rfl ?_
    repeat apply sQ
    rw[h8]
    refine WR.q rfl ?_
    repeat apply sQ
    refine WR.aB rfl ?_
    repeat apply sQ
    refine WR.m 5 rfl ?_
    rw[show IntKind.i64.wrap ((live a).k+1)=(live (a+1)).k from aN (by unfold big;omega)]
    refine WQ.q rfl ?_
    repeat apply sQ
    refine WR.q rfl ?_
    repeat apply sQ
    refine WR.m 1 rfl ?_
    refine WQ.c rfl (SpR.okA ts trivial (oO _) (by decide) rfl) (.put .base rfl) rfl ?_
    refine WQ.q rfl ?_
    repeat apply sQ
    refine WR.m 2 rfl ?_
    refine WQ.c rfl (aU hl' (s:=live a1) (x:=[123]) (by decide) rfl) .base rfl ?_
    rw[aC,hb]
    refine WQ.q rfl ?_
    repeat apply sQ
    refine WR.q rfl ?_
    repeat apply sQ
    refine WR.k rfl ?_
    repeat apply sQ
    refine WR.m 2 rfl ?_
    refine WQ.c rfl (sc (by decide) rfl) (.put .base rfl) rfl ?_
    refine WQ.q rfl ?_
    repeat apply sQ
    refine WR.q rfl ?_
    repeat apply sQ
    refine WR.q rfl ?_
    repeat apply sQ
    refine WR.q rfl ?_
    exact WR.e
   |ok r a2=>
    rw[hx]at sp
    obtain⟨es,en⟩:=r
    have e2:SCall Go.Proofs.Tryz.prog [] 68 (.ptr 1000 0::[.int .i64 d]) none ⟨1001,og (rrL l (live a)),[]⟩ (.ret (cF (.mk 8 (aA l a).a en [] 0 (.mk vk va vp vn vl) es))) none ⟨1001,og (rrL l (live a2)),[]⟩:=by
     refine SCall.aG (fn:=Go.Proofs.Tryz.f68) (by kernel_rfl) iX (by kernel_rfl) (by kernel_rfl) (Nat.le_refl _) rfl ((aX _ _)) (by exact aI _) ?_
     unfold oC
     repeat apply sQ
     refine WR.q rfl ?_
     repeat apply sQ
     refine WR.m 1 rfl ?_
     refine WQ.c rfl (bO hl' (s:=live a) (by decide) rfl) .base rfl ?_
     rw[hI]
     refine WQ.q rfl ?_
     repeat apply sQ
     refine WR.q rfl ?_
     repeat apply sQ
     refine WR.m 1 rfl ?_
     refine WQ.c rfl (aM hl' (s:=live a) (x:=[116,114,117,101]) (by decide) rfl) .base rfl ?_
     rw[aC]
     refine WQ.q rfl ?_
     repeat apply sQ
     refine WR.m 1 rfl ?_
     refine WQ.c rfl (aM hl' (s:=live a) (x:=[102,97,108,115,101]) (by decide) rfl) .base rfl ?_
     rw[aC]
     refine WQ.q rfl ?_
     repeat apply sQ
     refine WR.m 1 rfl ?_
     refine WQ.c rfl (aM hl' (s:=live a) (x:=[110,101,119]) (by decide) rfl) .base rfl ?_
     rw[aC]
     refine WQ.q rfl ?_
     repeat apply sQ
     refine WR.m 1 rfl ?_
     refine WQ.c rfl (aU hl' (s:=live a) (x:=[40]) (by decide) rfl) .base rfl ?_
     rw[aC]
     refine WQ.q rfl ?_
     repeat(first|refine WR.seq ?_|refine WR.block ?_)
     refine WR.m 2 rfl ?_
     refine WQ.m 1 rfl ?_
     rw[h2]
     refine WQ.q rfl ?_
     refine WR.aF rfl ?_
     repeat apply sQ
     refine WR.m 2 rfl ?_
     refine WQ.m 1 rfl ?_
     rw[h3]
     refine WQ.q rfl ?_
     refine WR.aF rfl ?_
     repeat apply sQ
     rw[h4,h5]
     refine WR.q rfl ?_
     refine WR.aF rfl ?_
     repeat apply sQ
     refine WR.m 2 rfl ?_
     refine WQ.m 1 rfl ?_
     rw[h6]
     refine WQ.q rfl ?_
     refine WR.aF rfl ?_
     repeat apply sQ
     rw[h7]
     refine WR.q rfl ?_
     refine WR.aF rfl ?_
     repeat apply sQ
     rw[h8]
     refine WR.q rfl ?_
     repeat apply sQ
     refine WR.aB rfl ?_
     repeat apply sQ
     refine WR.m 5 rfl ?_
     rw[show IntKind.i64.wrap ((live a).k+1)=(live (a+1)).k from aN (by unfold big;omega)]
     refine WQ.q rfl ?_
     repeat apply sQ
     refine WR.q rfl ?_
     repeat apply sQ
     refine WR.m 1 rfl ?_
     refine WQ.c rfl (SpR.okA ts trivial (oO _) (by decide) rfl) (.put .base rfl) rfl ?_
     refine WQ.q rfl ?_
     repeat apply sQ
     refine WR.m 2 rfl ?_
     refine WQ.c rfl (aU hl' (s:=live a1) (x:=[123]) (by decide) rfl) .base rfl ?_
     rw[aC,hb]
     refine WQ.q rfl ?_
     repeat apply sQ
     refine WR.q rfl ?_
     repeat apply sQ
     refine WR.k rfl ?_
     repeat apply sQ
     refine WR.m 2 rfl ?_
     refine WQ.c rfl (SpR.okA (SpL.ok sp) (by exact⟨trivial,trivial,trivial,trivial⟩) (dL _) (by decide) rfl) (.put .base rfl) rfl ?_
     refine WQ.q rfl ?_
     repeat apply sQ
     refine WR.q rfl ?_
     repeat apply sQ
     refine WR.q rfl ?_
     repeat apply sQ
     refine WR.q rfl ?_
     exact WR.e
    exact e2
end
theorem aHp(l:List Tz)(hl:l.length<20000)(hT:∀t∈l,t.t.length<big)(n:Nat)(hs:∀m,m<n+1→SpecR l (fns l m))(a d:Nat)(ha:a≤l.length)(hd:d≤30):SpR 68 [.int .i64 d] l a cF (bZ l (fns l n) a d):=by
 cases h2:decide ((aA l a).k=2)with
 |true=>exact aUk l hl n a d ha hd h2
 |false=>
 cases h3:decide ((aA l a).k=3)with
 |true=>exact aTw l hl hT n a d ha hd h2 h3
 |false=>
 cases h4:isF l a 5 [116,114,117,101]with
 |true=>exact aFh l hl n a d h2 h3 h4
 |false=>
 cases h5:isF l a 5 [102,97,108,115,101]with
 |true=>exact aCh l hl n a d h2 h3 h4 h5
 |false=>
 cases h6:decide ((aA l a).k=1)with
 |true=>exact aFs l hl n a d h2 h3 h4 h5 h6
 |false=>
 cases h7:isF l a 4 [40]with
 |true=>exact aHx l hl n hs a d hd h2 h3 h4 h5 h6 h7
 |false=>
 cases h8:isF l a 5 [110,101,119]with
 |true=>exact aMr l hl n hs a d hd h2 h3 h4 h5 h6 h7 h8
 |false=>exact aGz l hl n a d h2 h3 h4 h5 h6 h7 h8
end Go.VM
end
section
/- The document's expressions: what stands behind an operand. -/
set_option maxRecDepth 100000
namespace Go.VM
open Go.RowKit
def aIr(d:Nat):TM:=[(0,.v (.ptr 1000 0)),(1,.v (.int .i64 d)),(4,.l 4 0),(9,.l 9 0)]
def tA(x:Ex):LM:=[(4,zEx),(9,bG x)]
theorem xU{l:List Tz}(hl:l.length<20000)(a:Nat):match decide ((aA l a).k=1)with
  |true=>mU l (live a)=live (a+1)
  |false=>∃k,mU l (live a)=⟨k,(aA l a).a,5⟩:=by
 have e:cX l (live a).k=aA l a:=bJ l a
 unfold mU
 rw[e]
 cases hk:decide ((aA l a).k=1)with
 |true=>
  have hlt:=cJ (l:=l) (a:=a) (by rw[of_decide_eq_true hk];decide)
  show iL (live a)=_
  unfold iL live
  rw[aN (by unfold big;omega)]
 |false=>
  refine⟨(iL (dB l (live a) 5)).k,?_⟩
  show iL (dB l (live a) 5)=_
  unfold dB
  rw[e]
  rfl
theorem aLw{l:List Tz}{a d:Nat}{s:List Nat}{a1 d1:Nat}{p c:Int}(h:bK l a d s=.er a1 d1 p c):c≠0:=by
 unfold bK at h
 split at h
 ·cases h
 ·unfold fN at h
  cases h
  decide
theorem jV{QN:S→Prop}{QX:X→S→Prop}(l:List Tz)(d:Nat)(x:Ex)(k p c:Int)(hc:c≠0){tm:TM}{lc:LM}(htm:TellT tm (tA x) (aIr d))(hlc:TellL lc (tA x))
  (h0:∀tm,TellT tm (tA x) (aIr d)→QX (.exit 0) (SL.toS ⟨tm,[],none,1001,rrL l ⟨k,p,c⟩,tA x⟩)):
  WLr Go.Proofs.Tryz.prog [] ⟨Go.Proofs.Tryz.f61.ntmps,none,61⟩ jB (SL.toS ⟨tm,[],none,1001,rrL l ⟨k,p,c⟩,lc⟩) QN QX:=by
 refine WLr.weak (SW.aP htm hlc) ?_
 unfold jB
 refine WLr.of ?_
 repeat apply sQ
 refine WR.m 5 rfl ?_
 refine WQ.m 1 rfl ?_
 rw[show decide (c=0)=false from decide_eq_false hc]
 refine WQ.q rfl ?_
 repeat apply sQ
 refine WR.aF rfl (WR.exit (h0 _ ?_))
 exact tQ
theorem aFj{QN:S→Prop}{QX:X→S→Prop}(l:List Tz)(hl:l.length<20000)(hl1:l.length<19999)(d:Nat)(hd:d≤30):∀(n:Nat) (hs:∀m,m<n→SpecR l (fns l m)) (x:Ex) (a:Nat),a≤l.length→((fns l n).post x a d).dP=false→
  (∀y a',(fns l n).post x a d=.ok y a'→∀s,iO Go.Proofs.Tryz.prog Go.Proofs.Tryz.f61 (cF y) 1001 (rrL l (live a')) s→QX .ret s)→
  (∀a1 d1 p c,(fns l n).post x a d=.er a1 d1 p c→∀y k,(∀s,iO Go.Proofs.Tryz.prog Go.Proofs.Tryz.f61 (cF y) 1001 (rrL l ⟨k,p,c⟩) s→QX .ret s)∧∀tm,TellT tm (tA y) (aIr d)→QX (.exit 0) (SL.toS ⟨tm,[],none,1001,rrL l ⟨k,p,c⟩,tA y⟩))→
  ∀tm lc,TellT tm (tA x) (aIr d)→TellL lc (tA x)→
  WLr Go.Proofs.Tryz.prog [] ⟨Go.Proofs.Tryz.f61.ntmps,none,61⟩ jB (SL.toS ⟨tm,[],none,1001,rrL l (live a),lc⟩) QN QX:=by
 intro n
 have hl':l.length<4294967296:=by omega
 have hI:∀a,cX l (live a).k=aA l a:=fun a=>bJ l a
 induction n with
 |zero=>intro _ x a _ ho;cases ho
 |succ n ih=>
  intro hs x a ha ho hok her tm lc htm hlc
  have ih:=ih (fun m hm=>hs m (by omega))
  obtain⟨xk,xa,xe,xn,xv,⟨xtk,xta,xtp,xtn,xtl⟩,xs⟩:=x
  have eb:(fns l (n+1)).post (.mk xk xa xe xn xv (.mk xtk xta xtp xtn xtl) xs) a d=gP l (fns l n) (.mk xk xa xe xn xv (.mk xtk xta xtp xtn xtl) xs) a d:=rfl
  rw[eb]at ho hok her
  unfold gP at ho hok her
  cases h46:isF l a 4 [46]with
  |true=>
   have hlt:=bB h46 (by decide)
   simp only[h46]at ho hok her
   have nl:=xU hl (a+1)
   refine WLr.weak (SW.aP htm hlc) ?_
   unfold jB
   refine WLr.of ?_
   repeat apply sQ
   refine WR.q rfl ?_
   repeat apply sQ
   refine WR.aB rfl (WR.skip ?_)
   repeat(first|refine WR.seq ?_|refine WR.block ?_)
   refine WR.m 1 rfl ?_
   refine WQ.c rfl (aU hl' (s:=live a) (x:=[46]) (by decide) rfl) .base rfl ?_
   rw[aC,h46]
   refine WQ.q rfl ?_
   repeat apply sQ
   refine WR.m 1 rfl ?_
   refine WQ.c rfl (aU hl' (s:=live a) (x:=[40]) (by decide) rfl) .base rfl ?_
   rw[aC]
   refine WQ.q rfl ?_
   repeat apply sQ
   refine WR.m 1 rfl ?_
   refine WQ.c rfl (aU hl' (s:=live a) (x:=[91]) (by decide) rfl) .base rfl ?_
   rw[aC]
   refine WQ.q rfl ?_
   repeat(first|refine WR.seq ?_|refine WR.block ?_)
   refine WR.q rfl ?_
   repeat apply sQ
   refine WR.aB rfl ?_
   repeat apply sQ
   refine WR.m 5 rfl ?_
   rw[show IntKind.i64.wrap ((live a).k+1)=(live (a+1)).k from aN (by unfold big;omega)]
   refine WQ.q rfl ?_
   repeat apply sQ
   refine WR.m 1 rfl ?_
   refine WQ.c rfl (aEn hl' (s:=live (a+1)) (by decide) rfl) (.put .base rfl) rfl ?_
   rw[hI (a+1)]
   cases hk:decide ((aA l (a+1)).k=1)with
   |false=>
    rw[hk]at nl
    obtain⟨k,nl⟩:=nl
    simp only[hk]at her
    rw[nl]
    refine WQ.q rfl ?_
    repeat apply sQ
    refine WR.q rfl ?_
    refine WIr.again (jV l d (.mk 5 xa (aA l (a+1)).e (aA l (a+1)).t 0 zT [.mk xk xa xe xn xv (.mk xtk xta xtp xtn xtl) xs]) k _ 5 (by decide) ?_ ?_ (her _ _ _ _ rfl _ k).2)
    ·exact tQ
    ·refine .cons rfl (.inl rfl) (.cons rfl (.inr ?_) .nil)
     exact cQ
   |true=>
    rw[hk]at nl
    have nl:mU l (live (a+1))=live (a+1+1):=nl
    simp only[hk]at ho hok her
    have hlt2:=cJ (l:=l) (a:=a+1) (by rw[of_decide_eq_true hk];decide)
    rw[nl]
    refine WQ.q rfl ?_
    repeat apply sQ
    refine WR.q rfl ?_
    refine WIr.again (ih (.mk 5 xa (aA l (a+1)).e (aA l (a+1)).t 0 zT [.mk xk xa xe xn xv (.mk xtk xta xtp xtn xtl) xs]) (a+1+1) (by omega) ho hok her _ _ ?_ ?_)
    ·exact tQ
    ·refine .cons rfl (.inl rfl) (.cons rfl (.inr ?_) .nil)
     exact cQ
  |false=>
  simp only[h46]at ho hok her
  cases h40:isF l a 4 [40]with
  |true=>
   have hlt:=bB h40 (by decide)
   simp only[h40]at ho hok her
   have sp:=(hs n (by omega)).list [40] [41] a d hlt hd
   have fw:=(bX l n).list [41] a d hlt
   have ec:=(eH (l:=l) n).list [41] a d
   have ln:=fun r a2=>aCl l n [41] a d r a2 hlt
   refine WLr.weak (SW.aP htm hlc) ?_
   unfold jB
   refine WLr.of ?_
   repeat apply sQ
   refine WR.q rfl ?_
   repeat apply sQ
   refine WR.aB rfl (WR.skip ?_)
   repeat(first|refine WR.seq ?_|refine WR.block ?_)
   refine WR.m 1 rfl ?_
   refine WQ.c rfl (aU hl' (s:=live a) (x:=[46]) (by decide) rfl) .base rfl ?_
   rw[aC,h46]
   refine WQ.q rfl ?_
   repeat apply sQ
   refine WR.m 1 rfl ?_
   refine WQ.c rfl (aU hl' (s:=live a) (x:=[40]) (by decide) rfl) .base rfl ?_
   rw[aC,h40]
   refine WQ.q rfl ?_
   repeat apply sQ
   refine WR.m 1 rfl ?_
   refine WQ.c rfl (aU hl' (s:=live a) (x:=[91]) (by decide) rfl) .base rfl ?_
   rw[aC]
   refine WQ.q rfl ?_
   repeat(first|refine WR.seq ?_|refine WR.block ?_)
   refine WR.q rfl ?_
   refine WR.aF rfl ?_
   repeat apply sQ
   refine WR.q rfl ?_
   repeat apply sQ
   refine WR.aB rfl ?_
   repeat apply sQ
   refine WR.m 4 rfl ?_
   cases hx:(fns l n).list [41] a d with
   |out=>rw[hx]at ho;cases ho
   |er a1 d1 p c=>
    rw[hx]at sp her ec
    have hc:=ec _ _ _ _ rfl
    obtain⟨⟨es,en⟩,k,hes,sc⟩:=SpL.erA sp (by exact⟨trivial,trivial,trivial,trivial⟩)
    refine WQ.c rfl (sc (by decide) rfl) (.put .base rfl) rfl ?_
    refine WQ.q rfl ?_
    repeat apply sQ
    refine WR.aO aV (DW.m 1000 rfl ?_)
    refine DW.eJ pQ rfl (oH (es2:=dG (.mk xk xa xe xn xv (.mk xtk xta xtp xtn xtl) xs::es)) (fs2:=dG es) rfl rfl rfl (by simp) (by
     rw[bC];intro e' he';obtain⟨y,_,rfl⟩:=List.mem_map.1 he';exact cH y) (by
     show 144*(1+(dG es).length)≤4294967296
     rw[bC,List.length_map]
     have:es.length≤20000:=hes
     omega) (by rw[bC,List.map_map];exact List.map_congr_left fun y _=>mV y) rfl) rfl (DW.m 1000 rfl ?_)
    refine DW.stS pQ rfl rfl rfl rfl (DW.m 1000 rfl (DW.cD pQ ?_))
    refine WIr.again (jV l d (.mk 6 xa en [] 0 zT (.mk xk xa xe xn xv (.mk xtk xta xtp xtn xtl) xs::es)) k p c hc ?_ ?_ (her _ _ _ _ rfl _ k).2)
    ·exact tQ
    ·refine .cons rfl (.inl rfl) (.cons rfl (.inr ?_) .nil)
     exact cQ
   |ok r a1=>
    have hes:=Nat.le_trans (ln _ _ hx) (show l.length+1≤20000 by omega)
    rw[hx]at sp fw ho hok her
    have ha1:=(fw _ _ rfl).2 ha
    obtain⟨es,en⟩:=r
    refine WQ.c rfl (SpR.okA (SpL.ok sp) (by exact⟨trivial,trivial,trivial,trivial⟩) (dL _) (by decide) rfl) (.put .base rfl) rfl ?_
    refine WQ.q rfl ?_
    repeat apply sQ
    refine WR.aO aV (DW.m 1000 rfl ?_)
    refine DW.eJ pQ rfl (oH (es2:=dG (.mk xk xa xe xn xv (.mk xtk xta xtp xtn xtl) xs::es)) (fs2:=dG es) rfl rfl rfl (by simp) (by
     rw[bC];intro e' he';obtain⟨y,_,rfl⟩:=List.mem_map.1 he';exact cH y) (by
     show 144*(1+(dG es).length)≤4294967296
     rw[bC,List.length_map]
     have:es.length≤20000:=hes
     omega) (by rw[bC,List.map_map];exact List.map_congr_left fun y _=>mV y) rfl) rfl (DW.m 1000 rfl ?_)
    refine DW.stS pQ rfl rfl rfl rfl (DW.m 1000 rfl (DW.cD pQ ?_))
    refine WIr.again (ih (.mk 6 xa en [] 0 zT (.mk xk xa xe xn xv (.mk xtk xta xtp xtn xtl) xs::es)) a1 ha1 ho hok her _ _ ?_ ?_)
    ·exact tQ
    ·refine .cons rfl (.inl rfl) (.cons rfl (.inr ?_) .nil)
     exact cQ
  |false=>
  simp only[h40]at ho hok her
  cases h91:isF l a 4 [91]with
  |false=>
   simp only[h91]at hok
   refine WLr.weak (SW.aP htm hlc) ?_
   unfold jB
   refine WLr.of ?_
   repeat apply sQ
   refine WR.q rfl ?_
   repeat apply sQ
   refine WR.aB rfl (WR.skip ?_)
   repeat(first|refine WR.seq ?_|refine WR.block ?_)
   refine WR.m 1 rfl ?_
   refine WQ.c rfl (aU hl' (s:=live a) (x:=[46]) (by decide) rfl) .base rfl ?_
   rw[aC,h46]
   refine WQ.q rfl ?_
   repeat apply sQ
   refine WR.m 1 rfl ?_
   refine WQ.c rfl (aU hl' (s:=live a) (x:=[40]) (by decide) rfl) .base rfl ?_
   rw[aC,h40]
   refine WQ.q rfl ?_
   repeat apply sQ
   refine WR.m 1 rfl ?_
   refine WQ.c rfl (aU hl' (s:=live a) (x:=[91]) (by decide) rfl) .base rfl ?_
   rw[aC,h91]
   refine WQ.q rfl ?_
   repeat(first|refine WR.seq ?_|refine WR.block ?_)
   refine WR.q rfl ?_
   refine WR.aF rfl ?_
   repeat apply sQ
   refine WR.q rfl ?_
   refine WR.aF rfl ?_
   repeat apply sQ
   refine WR.q rfl ?_
   refine WR.aF rfl ?_
   repeat apply sQ
   refine WR.q rfl ?_
   refine WR.ret (hok _ _ rfl _ ⟨rfl,rfl,⟨_,rfl,vQ⟩,fun b _=>rfl⟩)
  |true=>
  have hlt:=bB h91 (by decide)
  simp only[h91]at ho hok her
  rcases Nat.eq_or_lt_of_le hd with rfl|hd30
  ·have her:=(her a 30 (aA l a).a 6 rfl (.mk xk xa xe xn xv (.mk xtk xta xtp xtn xtl) xs) a).1
   have hop:lB l (live a) 30=⟨a,(aA l a).a,6⟩:=by
    show dB l (live a) 6=_
    unfold dB
    rw[hI]
    rfl
   refine WLr.weak (SW.aP htm hlc) ?_
   unfold jB
   refine WLr.of ?_
   repeat apply sQ
   refine WR.q rfl ?_
   repeat apply sQ
   refine WR.aB rfl (WR.skip ?_)
   repeat(first|refine WR.seq ?_|refine WR.block ?_)
   refine WR.m 1 rfl ?_
   refine WQ.c rfl (aU hl' (s:=live a) (x:=[46]) (by decide) rfl) .base rfl ?_
   rw[aC,h46]
   refine WQ.q rfl ?_
   repeat apply sQ
   refine WR.m 1 rfl ?_
   refine WQ.c rfl (aU hl' (s:=live a) (x:=[40]) (by decide) rfl) .base rfl ?_
   rw[aC,h40]
   refine WQ.q rfl ?_
   repeat apply sQ
   refine WR.m 1 rfl ?_
   refine WQ.c rfl (aU hl' (s:=live a) (x:=[91]) (by decide) rfl) .base rfl ?_
   rw[aC,h91]
   refine WQ.q rfl ?_
   repeat(first|refine WR.seq ?_|refine WR.block ?_)
   refine WR.q rfl ?_
   refine WR.aF rfl ?_
   repeat apply sQ
   refine WR.q rfl ?_
   refine WR.aF rfl ?_
   repeat apply sQ
   refine WR.q rfl ?_
   repeat apply sQ
   refine WR.aB rfl ?_
   repeat apply sQ
   refine WR.m 2 rfl ?_
   refine WQ.c rfl (dM hl' (s:=live a) (d:=30) (by decide) rfl) (.put .base rfl) rfl ?_
   rw[hop]
   refine WQ.q rfl ?_
   repeat apply sQ
   refine WR.q rfl ?_
   repeat apply sQ
   refine WR.aB rfl ?_
   repeat apply sQ
   refine WR.q rfl ?_
   refine WR.ret (her _ ⟨rfl,rfl,⟨_,rfl,vQ⟩,fun b _=>rfl⟩)
  have ew:aW l a d ((fns l n).expr 1)=(fns l n).expr 1 (a+1) (d+1):=by
   unfold aW
   rw[if_neg (by omega)]
  rw[ew]at ho hok her
  have sp:=(hs n (by omega)).expr 1 (a+1) (d+1) (by omega) (by omega) (by omega) (by omega)
  have fw:=(bX l n).expr 1 (a+1) (d+1)
  have ec:=(eH (l:=l) n).expr 1 (a+1) (d+1)
  refine WLr.weak (SW.aP htm hlc) ?_
  unfold jB
  refine WLr.of ?_
  repeat apply sQ
  refine WR.q rfl ?_
  repeat apply sQ
  refine WR.aB rfl (WR.skip ?_)
  repeat(first|refine WR.seq ?_|refine WR.block ?_)
  refine WR.m 1 rfl ?_
  refine WQ.c rfl (aU hl' (s:=live a) (x:=[46]) (by decide) rfl) .base rfl ?_
  rw[aC,h46]
  refine WQ.q rfl ?_
  repeat apply sQ
  refine WR.m 1 rfl ?_
  refine WQ.c rfl (aU hl' (s:=live a) (x:=[40]) (by decide) rfl) .base rfl ?_
  rw[aC,h40]
  refine WQ.q rfl ?_
  repeat apply sQ
  refine WR.m 1 rfl ?_
  refine WQ.c rfl (aU hl' (s:=live a) (x:=[91]) (by decide) rfl) .base rfl ?_
  rw[aC,h91]
  refine WQ.q rfl ?_
  repeat(first|refine WR.seq ?_|refine WR.block ?_)
  refine WR.q rfl ?_
  refine WR.aF rfl ?_
  repeat apply sQ
  refine WR.q rfl ?_
  refine WR.aF rfl ?_
  repeat apply sQ
  refine WR.q rfl ?_
  repeat apply sQ
  refine WR.aB rfl ?_
  repeat apply sQ
  refine WR.m 2 rfl ?_
  refine WQ.c rfl (dM hl' (s:=live a) (d:=d) (by decide) rfl) (.put .base rfl) rfl ?_
  rw[kW l a d hd30]
  refine WQ.q rfl ?_
  repeat apply sQ
  refine WR.q rfl ?_
  repeat apply sQ
  refine WR.k rfl ?_
  repeat apply sQ
  refine WR.m 5 rfl ?_
  rw[show IntKind.i64.wrap ((live a).k+1)=(live (a+1)).k from aN (by unfold big;omega)]
  refine WQ.q rfl ?_
  repeat apply sQ
  refine WR.m 3 rfl ?_
  rw[show IntKind.i64.wrap ((d:Int)+1)=((d+1:Nat):Int)from aN (by unfold big;omega)]
  refine WQ.m 1 rfl ?_
  cases hx:(fns l n).expr 1 (a+1) (d+1)with
  |out=>rw[hx]at ho;cases ho
  |er a1 d1 p c=>
   rw[hx]at sp her ec
   have hc:=ec _ _ _ _ rfl
   obtain⟨y,k,sc⟩:=SpR.erA sp (by exact⟨trivial,trivial,trivial⟩) (fun v=>aI v)
   obtain⟨yk,ya,ye,yn,yv,⟨ytk,yta,ytp,ytn,ytl⟩,ys⟩:=y
   refine WQ.c rfl (sc (by decide) rfl) (.put .base rfl) rfl ?_
   refine WQ.q rfl ?_
   repeat apply sQ
   refine WR.m 1 rfl ?_
   refine WQ.c rfl (eK hl' (s:=⟨k,p,c⟩) (x:=[93]) (by decide) rfl) (.put .base rfl) rfl ?_
   rw[mA l k p c hc]
   refine WQ.q rfl ?_
   repeat apply sQ
   refine WR.q rfl ?_
   refine WIr.again (jV l d (.mk 7 xa (cX l k).e [] 0 zT [.mk xk xa xe xn xv (.mk xtk xta xtp xtn xtl) xs,.mk yk ya ye yn yv (.mk ytk yta ytp ytn ytl) ys]) (IntKind.i64.wrap (k+1)) p c hc ?_ ?_ (her _ _ _ _ rfl _ _).2)
   ·exact tQ
   ·refine .cons rfl (.inl rfl) (.cons rfl (.inr ?_) .nil)
    exact cQ
  |ok y a1=>
   rw[hx]at sp fw ho hok her
   have ha1:=(fw _ _ rfl).2 (by omega)
   have ml:=jG hl a1 d [93]
   simp only[R.bind]at ho hok her
   obtain⟨yk,ya,ye,yn,yv,⟨ytk,yta,ytp,ytn,ytl⟩,ys⟩:=y
   refine WQ.c rfl (SpR.okA sp (by exact⟨trivial,trivial,trivial⟩) (aI _) (by decide) rfl) (.put .base rfl) rfl ?_
   refine WQ.q rfl ?_
   repeat apply sQ
   refine WR.m 1 rfl ?_
   refine WQ.c rfl (eK hl' (s:=live a1) (x:=[93]) (by decide) rfl) (.put .base rfl) rfl ?_
   rw[hI a1]
   cases hm:bK l a1 d [93]with
   |out=>rw[hm]at ho;cases ho
   |er a2 d2 p c=>
    have hc:=aLw hm
    rw[hm]at ml
    obtain⟨k,ml⟩:=ml
    simp only[hm]at her
    rw[ml]
    refine WQ.q rfl ?_
    repeat apply sQ
    refine WR.q rfl ?_
    refine WIr.again (jV l d (.mk 7 xa (aA l a1).e [] 0 zT [.mk xk xa xe xn xv (.mk xtk xta xtp xtn xtl) xs,.mk yk ya ye yn yv (.mk ytk yta ytp ytn ytl) ys]) k p c hc ?_ ?_ (her _ _ _ _ rfl _ _).2)
    ·exact tQ
    ·refine .cons rfl (.inl rfl) (.cons rfl (.inr ?_) .nil)
     exact cQ
   |ok e a2=>
    have ha2:a2≤l.length:=(Fwd.qX (l:=l) (a:=a1) (d:=d) (s:=[93]) _ _ hm).2 ha1
    rw[hm]at ml
    obtain⟨ml,rfl⟩:=ml
    simp only[hm]at ho hok her
    rw[ml]
    refine WQ.q rfl ?_
    repeat apply sQ
    refine WR.q rfl ?_
    refine WIr.again (ih (.mk 7 xa (aA l a1).e [] 0 zT [.mk xk xa xe xn xv (.mk xtk xta xtp xtn xtl) xs,.mk yk ya ye yn yv (.mk ytk yta ytp ytn ytl) ys]) a2 ha2 ho hok her _ _ ?_ ?_)
    ·exact tQ
    ·refine .cons rfl (.inl rfl) (.cons rfl (.inr ?_) .nil)
     exact cQ
end Go.VM
end
section
/- The document's expressions: an operand; all. -/
set_option maxRecDepth 100000
namespace Go.VM
open Go.RowKit
theorem aIc(l:List Tz)(hl:l.length<19999)(n:Nat)(hs:∀m,m<n+1→SpecR l (fns l m))(a d:Nat)(ha:a≤l.length)(hd:d≤30):SpR 61 [.int .i64 d] l a cF (gF l (fns l n) a d):=by
 have hl':l.length<4294967296:=by omega
 have hI:∀a,cX l (live a).k=aA l a:=fun a=>bJ l a
 unfold gF
 cases h33:isF l a 4 [33]with
 |true=>
  have hlt:=bB h33 (by decide)
  rcases Nat.eq_or_lt_of_le hd with rfl|hd
  ·have hop:lB l (live a) 30=⟨a,(aA l a).a,6⟩:=by
    show dB l (live a) 6=_
    unfold dB
    rw[hI]
    rfl
   show SpR _ _ _ _ _ (.er a 30 (aA l a).a 6)
   refine⟨zX,a,?_⟩
   refine SCall.aG (fn:=Go.Proofs.Tryz.f61) (by kernel_rfl) yX (by kernel_rfl) (by kernel_rfl) (Nat.le_refl _) rfl ((aX _ _)) (by exact aI _) ?_
   unfold aGr
   repeat apply sQ
   refine WR.q rfl ?_
   repeat apply sQ
   refine WR.m 1 rfl ?_
   refine WQ.c rfl (bO hl' (s:=live a) (by decide) rfl) .base rfl ?_
   rw[hI]
   refine WQ.q rfl ?_
   repeat apply sQ
   refine WR.m 1 rfl ?_
   refine WQ.c rfl (aU hl' (s:=live a) (x:=[33]) (by decide) rfl) .base rfl ?_
   rw[aC]
   rw[h33]
   refine WQ.q rfl ?_
   repeat apply sQ
   refine WR.q rfl ?_
   repeat apply sQ
   refine WR.aB rfl ?_
   repeat apply sQ
   refine WR.m 2 rfl ?_
   refine WQ.c rfl (dM hl' (s:=live a) (d:=30) (by decide) rfl) (.put .base rfl) rfl ?_
   rw[hop]
   refine WQ.q rfl ?_
   repeat apply sQ
   refine WR.q rfl ?_
   repeat apply sQ
   refine WR.aB rfl ?_
   repeat apply sQ
   refine WR.q rfl ?_
   exact WR.e
  ·have ew:aW l a d (fns l n).oper=(fns l n).oper (a+1) (d+1):=by
    unfold aW
    rw[if_neg (by omega)]
   simp only[ew]
   have sp:=(hs n (by omega)).oper (a+1) (d+1) (by omega) (by omega)
   cases hx:(fns l n).oper (a+1) (d+1)with
   |out=>exact trivial
   |er a1 d1 p c=>
    rw[hx]at sp
    obtain⟨y,k,sc⟩:=SpR.erA sp (by exact⟨trivial,trivial⟩) (fun v=>aI v)
    obtain⟨yk,ya,ye,yn,yv,⟨ytk,yta,ytp,ytn,ytl⟩,ys⟩:=y
    refine⟨.mk 10 (aA l a).a ye [] 0 zT [.mk yk ya ye yn yv (.mk ytk yta ytp ytn ytl) ys],k,?_⟩
    refine SCall.aG (fn:=Go.Proofs.Tryz.f61) (by kernel_rfl) yX (by kernel_rfl) (by kernel_rfl) (Nat.le_refl _) rfl ((aX _ _)) (by exact aI _) ?_
    unfold aGr
    repeat apply sQ
    refine WR.q rfl ?_
    repeat apply sQ
    refine WR.m 1 rfl ?_
    refine WQ.c rfl (bO hl' (s:=live a) (by decide) rfl) .base rfl ?_
    rw[hI]
    refine WQ.q rfl ?_
    repeat apply sQ
    refine WR.m 1 rfl ?_
    refine WQ.c rfl (aU hl' (s:=live a) (x:=[33]) (by decide) rfl) .base rfl ?_
    rw[aC]
    rw[h33]
    refine WQ.q rfl ?_
    repeat apply sQ
    refine WR.q rfl ?_
    repeat apply sQ
    refine WR.aB rfl ?_
    repeat apply sQ
    refine WR.m 2 rfl ?_
    refine WQ.c rfl (dM hl' (s:=live a) (d:=d) (by decide) rfl) (.put .base rfl) rfl ?_
    rw[kW l a d hd]
    refine WQ.q rfl ?_
    repeat apply sQ
    refine WR.q rfl ?_
    repeat apply sQ
    refine WR.k rfl ?_
    repeat apply sQ
    refine WR.m 5 rfl ?_
    rw[show IntKind.i64.wrap ((live a).k+1)=(live (a+1)).k from aN (by unfold big;omega)]
    refine WQ.q rfl ?_
    repeat apply sQ
    refine WR.m 3 rfl ?_
    rw[show IntKind.i64.wrap ((d:Int)+1)=((d+1:Nat):Int)from aN (by unfold big;omega)]
    refine WQ.c rfl (sc (by decide) rfl) (.put .base rfl) rfl ?_
    refine WQ.q rfl ?_
    repeat apply sQ
    refine WR.q rfl ?_
    exact WR.e
   |ok y a1=>
    rw[hx]at sp
    obtain⟨yk,ya,ye,yn,yv,⟨ytk,yta,ytp,ytn,ytl⟩,ys⟩:=y
    have e2:SCall Go.Proofs.Tryz.prog [] 61 (.ptr 1000 0::[.int .i64 d]) none ⟨1001,og (rrL l (live a)),[]⟩ (.ret (cF (.mk 10 (aA l a).a ye [] 0 zT [.mk yk ya ye yn yv (.mk ytk yta ytp ytn ytl) ys]))) none ⟨1001,og (rrL l (live a1)),[]⟩:=by
     refine SCall.aG (fn:=Go.Proofs.Tryz.f61) (by kernel_rfl) yX (by kernel_rfl) (by kernel_rfl) (Nat.le_refl _) rfl ((aX _ _)) (by exact aI _) ?_
     unfold aGr
     repeat apply sQ
     refine WR.q rfl ?_
     repeat apply sQ
     refine WR.m 1 rfl ?_
     refine WQ.c rfl (bO hl' (s:=live a) (by decide) rfl) .base rfl ?_
     rw[hI]
     refine WQ.q rfl ?_
     repeat apply sQ
     refine WR.m 1 rfl ?_
     refine WQ.c rfl (aU hl' (s:=live a) (x:=[33]) (by decide) rfl) .base rfl ?_
     rw[aC]
     rw[h33]
     refine WQ.q rfl ?_
     repeat apply sQ
     refine WR.q rfl ?_
     repeat apply sQ
     refine WR.aB rfl ?_
     repeat apply sQ
     refine WR.m 2 rfl ?_
     refine WQ.c rfl (dM hl' (s:=live a) (d:=d) (by decide) rfl) (.put .base rfl) rfl ?_
     rw[kW l a d hd]
     refine WQ.q rfl ?_
     repeat apply sQ
     refine WR.q rfl ?_
     repeat apply sQ
     refine WR.k rfl ?_
     repeat apply sQ
     refine WR.m 5 rfl ?_
     rw[show IntKind.i64.wrap ((live a).k+1)=(live (a+1)).k from aN (by unfold big;omega)]
     refine WQ.q rfl ?_
     repeat apply sQ
     refine WR.m 3 rfl ?_
     rw[show IntKind.i64.wrap ((d:Int)+1)=((d+1:Nat):Int)from aN (by unfold big;omega)]
     refine WQ.c rfl (SpR.okA sp (by exact⟨trivial,trivial⟩) (aI _) (by decide) rfl) (.put .base rfl) rfl ?_
     refine WQ.q rfl ?_
     repeat apply sQ
     refine WR.q rfl ?_
     exact WR.e
    exact e2
 |false=>
  show SpR _ _ _ _ _ (((fns l n).prim a d).bind fun x a1=>(fns l n).post x a1 d)
  have sp:=(hs n (by omega)).prim a d ha hd
  have fw:=(bX l n).prim a d
  have ec:=(eH (l:=l) n).prim a d
  have lp:=fun QN QX x a1 ha1=>aFj (QN:=QN) (QX:=QX) l (by omega) hl d hd n (fun m hm=>hs m (by omega)) x a1 ha1
  cases hx:(fns l n).prim a d with
  |out=>exact trivial
  |er a1 d1 p c=>
   rw[hx]at sp ec
   have hc:=ec _ _ _ _ rfl
   obtain⟨y,k,sc⟩:=SpR.erA sp (by exact⟨trivial,trivial⟩) (fun v=>aI v)
   refine⟨y,k,?_⟩
   obtain⟨yk,ya,ye,yn,yv,⟨ytk,yta,ytp,ytn,ytl⟩,ys⟩:=y
   refine SCall.aG (fn:=Go.Proofs.Tryz.f61) (by kernel_rfl) yX (by kernel_rfl) (by kernel_rfl) (Nat.le_refl _) rfl ((aX _ _)) (by exact aI _) ?_
   unfold aGr
   repeat apply sQ
   refine WR.q rfl ?_
   repeat apply sQ
   refine WR.m 1 rfl ?_
   refine WQ.c rfl (bO hl' (s:=live a) (by decide) rfl) .base rfl ?_
   rw[hI]
   refine WQ.q rfl ?_
   repeat apply sQ
   refine WR.m 1 rfl ?_
   refine WQ.c rfl (aU hl' (s:=live a) (x:=[33]) (by decide) rfl) .base rfl ?_
   rw[aC]
   rw[h33]
   refine WQ.q rfl ?_
   repeat apply sQ
   refine WR.q rfl ?_
   repeat apply sQ
   refine WR.k rfl ?_
   repeat apply sQ
   refine WR.m 2 rfl ?_
   refine WQ.c rfl (sc (by decide) rfl) (.put .base rfl) rfl ?_
   refine WQ.q rfl ?_
   repeat apply sQ
   refine WR.block (WR.loop (jV l d (.mk yk ya ye yn yv (.mk ytk yta ytp ytn ytl) ys) k p c hc ?_ ?_ (fun tm ht=>?_)))
   ·exact tQ
   ·refine .cons rfl (.inl rfl) (.cons rfl (.inr ?_) .nil)
    exact cQ
   ·refine WR.weak (SW.aP ht (.cons rfl (.inl rfl) (.cons rfl (.inl rfl) .nil))) ?_
    unfold aAc
    repeat apply sQ
    refine WR.q rfl ?_
    exact WR.e
  |ok x a1=>
   rw[hx]at sp fw
   have lp:=fun QN QX=>lp QN QX x a1 ((fw _ _ rfl).2 ha)
   show SpR _ _ _ _ _ ((fns l n).post x a1 d)
   cases hb:(fns l n).post x a1 d with
   |out=>exact trivial
   |er a2 d2 p c=>
    rw[hb]at lp
    obtain⟨xk,xa,xe,xn,xv,⟨xtk,xta,xtp,xtn,xtl⟩,xs⟩:=x
    show ∃(v:Ex) (k:Int),SCall Go.Proofs.Tryz.prog [] 61 (.ptr 1000 0::[.int .i64 d]) none ⟨1001,og (rrL l (live a)),[]⟩ (.ret (cF v)) none ⟨1001,og (rrL l ⟨k,p,c⟩),[]⟩
    suffices H:∃i:Ex×Int,SCall Go.Proofs.Tryz.prog [] 61 [.ptr 1000 0,.int .i64 d] none ⟨1001,og (rrL l (live a)),[]⟩ (.ret (cF i.1)) none ⟨1001,og (rrL l ⟨i.2,p,c⟩),[]⟩from by
     obtain⟨i,h⟩:=H
     exact⟨i.1,i.2,h⟩
    refine SCall.rM (nx':=fun _=>1001) (fn:=Go.Proofs.Tryz.f61) (by kernel_rfl) yX (by kernel_rfl) (by kernel_rfl) (fun _=>Nat.le_refl _) (fun _=>rfl) (fun _=>aX _ _) (fun i=>by exact aI i.1) ?_
    unfold aGr
    repeat apply sQ
    refine WR.q rfl ?_
    repeat apply sQ
    refine WR.m 1 rfl ?_
    refine WQ.c rfl (bO hl' (s:=live a) (by decide) rfl) .base rfl ?_
    rw[hI]
    refine WQ.q rfl ?_
    repeat apply sQ
    refine WR.m 1 rfl ?_
    refine WQ.c rfl (aU hl' (s:=live a) (x:=[33]) (by decide) rfl) .base rfl ?_
    rw[aC]
    rw[h33]
    refine WQ.q rfl ?_
    repeat apply sQ
    refine WR.q rfl ?_
    repeat apply sQ
    refine WR.k rfl ?_
    repeat apply sQ
    refine WR.m 2 rfl ?_
    refine WQ.c rfl (SpR.okA sp (by exact⟨trivial,trivial⟩) (aI _) (by decide) rfl) (.put .base rfl) rfl ?_
    refine WQ.q rfl ?_
    repeat apply sQ
    refine WR.block (WR.loop (lp _ _ rfl (fun y a' e=>by cases e) (fun a3 d3 p3 c3 e y k=>⟨fun s hst=>?_,fun tm ht=>?_⟩) _ _ ?_ ?_))
    ·cases e
     exact⟨(y,k),hst⟩
    ·cases e
     obtain⟨yk,ya,ye,yn,yv,⟨ytk,yta,ytp,ytn,ytl⟩,ys⟩:=y
     refine WR.weak (SW.aP ht (.cons rfl (.inl rfl) (.cons rfl (.inl rfl) .nil))) ?_
     unfold aAc
     repeat apply sQ
     refine WR.q rfl ?_
     refine WR.ret ⟨(.mk yk ya ye yn yv (.mk ytk yta ytp ytn ytl) ys,k),rfl,rfl,⟨_,rfl,vQ⟩,fun b _=>rfl⟩
    ·exact tQ
    ·refine .cons rfl (.inl rfl) (.cons rfl (.inr ?_) .nil)
     exact cQ
   |ok y a2=>
    rw[hb]at lp
    obtain⟨xk,xa,xe,xn,xv,⟨xtk,xta,xtp,xtn,xtl⟩,xs⟩:=x
    have e2:SCall Go.Proofs.Tryz.prog [] 61 (.ptr 1000 0::[.int .i64 d]) none ⟨1001,og (rrL l (live a)),[]⟩ (.ret (cF y)) none ⟨1001,og (rrL l (live a2)),[]⟩:=by
     refine SCall.aG (fn:=Go.Proofs.Tryz.f61) (by kernel_rfl) yX (by kernel_rfl) (by kernel_rfl) (Nat.le_refl _) rfl ((aX _ _)) (by exact aI _) ?_
     unfold aGr
     repeat apply sQ
     refine WR.q rfl ?_
     repeat apply sQ
     refine WR.m 1 rfl ?_
     refine WQ.c rfl (bO hl' (s:=live a) (by decide) rfl) .base rfl ?_
     rw[hI]
     refine WQ.q rfl ?_
     repeat apply sQ
     refine WR.m 1 rfl ?_
     refine WQ.c rfl (aU hl' (s:=live a) (x:=[33]) (by decide) rfl) .base rfl ?_
     rw[aC]
     rw[h33]
     refine WQ.q rfl ?_
     repeat apply sQ
     refine WR.q rfl ?_
     repeat apply sQ
     refine WR.k rfl ?_
     repeat apply sQ
     refine WR.m 2 rfl ?_
     refine WQ.c rfl (SpR.okA sp (by exact⟨trivial,trivial⟩) (aI _) (by decide) rfl) (.put .base rfl) rfl ?_
     refine WQ.q rfl ?_
     repeat apply sQ
     refine WR.block (WR.loop (lp _ _ rfl (fun y' a' e s hst=>by cases e;exact hst) (fun a1 d1 p c e=>by cases e) _ _ ?_ ?_))
     ·exact tQ
     ·refine .cons rfl (.inl rfl) (.cons rfl (.inr ?_) .nil)
      exact cQ
    exact e2
theorem xO(l:List Tz)(hl:l.length<19999)(hT:∀t∈l,t.t.length<big):∀N m,m<N→SpecR l (fns l m)
 |0,m,h=>absurd h (Nat.not_lt_zero m)
 |N+1,0,_=>⟨fun _ _ _ _ _ _ _=>trivial,fun _ _ _ _=>trivial,fun _ _ _ _=>trivial,fun _ _ _ _ _ _=>trivial⟩
 |N+1,m+1,h=>by
  have hs:∀k,k<m+1→SpecR l (fns l k):=fun k hk=>xO l hl hT N k (by omega)
  exact⟨fun lv a d h1 h5 ha hd=>aFz l (by omega) m hs lv a d h1 h5 ha hd,fun a d ha hd=>aIc l hl m hs a d ha hd,fun a d ha hd=>aHp l (by omega) hT m hs a d ha hd,fun op to a d ha hd=>aHs l (by omega) m hs op to a d ha hd⟩
end Go.VM
end
