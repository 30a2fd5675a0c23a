/- laid for this seat: VfV VfW -/
import Derived.Test.YtgadhdnnkdcgkaaGreatDoorVh9
import Derived.Test.YtgadhdnnkdcgkaaGreatDoorVh8
import Derived.Test.YtgadhdnnkdcgkaaGreatDoorVh5
set_option linter.unusedVariables false
set_option linter.unusedSimpArgs false
section
/- Files: what a reading gives is small; what comes of a text with a declaration behind. -/
set_option maxRecDepth 100000
namespace Go.VM
open Go.RowKit
section
variable{l:List Tz}{K:Nat}
theorem aHd{α:Type}{rd:Nat→R α}{Q:α→Prop}(hq:∀a x a1,rd a=.ok x a1→Q x)(hr:∀a x a1,rd a=.ok x a1→a<a1∧a1≤l.length){to:List Nat}{none:Bool}{m a:Nat}{xs:List α}{a':Nat}(h:bC l rd to none m a=.ok xs a'):∀x∈xs,Q x:=by
 unfold bC at h
 split at h
 ·cases h;intro x hx;cases hx
 ·exact aWe (Q:=fun _ _ x=>Q x) (fun a x a1 e=>hq a x a1 e) (fun _ _ _ _ _ q _ _=>q) hr _ _ _ _ _ a h (Nat.le_refl _) (fun x hx=>by cases hx)
theorem aXs{α:Type}{rd:Nat→R α}{Q:α→Prop}(hq:∀a x a1,rd a=.ok x a1→a≤l.length→Q x)(hr:∀a x a1,a≤l.length→rd a=.ok x a1→a<a1∧a1≤l.length):∀(m:Nat) (acc:List α) (a:Nat) (xs:List α) (a':Nat),a≤l.length→fTo l rd m acc a=.ok xs a'→(∀x∈acc,Q x)→∀x∈xs,Q x:=by
 intro m
 induction m with
 |zero=>intro acc a xs a' _ h;cases h
 |succ m ih=>
  intro acc a xs a' ha h hacc
  unfold fTo at h
  split at h
  ·cases h;exact hacc
  ·obtain⟨x,a1,h1,h⟩:=R.aB h
   refine ih _ _ _ _ (hr _ _ _ ha h1).2 h fun y hy=>?_
   rcases List.mem_append.1 hy with hy|hy
   ·exact hacc y hy
   ·rw[List.mem_singleton]at hy;subst hy;exact hq _ _ _ h1 ha
theorem aUj(hl:l.length<19999)(hT:∀t∈l,t.t.length<big){a:Nat}{v:List Sx}{a':Nat}(h:ST l a=.ok v a'):aFl (l.length+2) v∧v.length≤l.length:=by
 have hP:=aBm l hl hT
 rcases kN l a with e|⟨ha,r,⟨N,hm⟩,e⟩
 ·rw[e]at h;cases h
 ·rw[e]at h
  unfold oV at h
  cases hf:bW r.2 with
  |false=>rw[hf]at h;cases h
  |true=>
   rw[hf]at h
   cases h
   exact(aOy hP (bMf l) N).block 0 ⟨a,0,0⟩ r.1 r.2 ha (hm N (Nat.le_refl _)) (eT.1 hf)
end
end Go.VM
end
section
/- Files: the law FilexMore, walked. -/
set_option maxRecDepth 100000
namespace Go.VM
open Go.RowKit
end Go.VM
end
