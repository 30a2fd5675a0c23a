/- laid for this seat: VxA VxB VxC VxD VxE VxF VxG -/
import Derived.Test.YtipiffhjilidlaaDoorVmS
import Derived.Test.YtipiffhjilidlaaDoorVmR
import Derived.Test.YtipiffhjilidlaaDoorVg1
section
/- Expressions: tokens, the reader in memory, the token at hand. -/
set_option maxRecDepth 100000
set_option linter.unusedVariables false
set_option linter.unusedSimpArgs false
namespace Go.VM
open Go.RowKit
structure Tz where
 k : Int
 a : Int
 e : Int
 t : List Nat
def dK (t : Tz) : List V := [.int .i64 t.k, .int .i64 t.a, .int .i64 t.e, .str t.t]
def wU (l : List Tz) : Int := match l.getLast? with | some t => t.e | none => 0
def aC (l : List Tz) (a : Nat) : Tz := match l[a]? with | some t => t | none => ⟨0, wU l, wU l, []⟩
def isF (l : List Tz) (a : Nat) (k : Int) (s : List Nat) : Bool := decide ((aC l a).k = k) && decide ((aC l a).t = s)
theorem aAd {D : Nat → Prop} : ∀ l : List Tz, Inss D (l.map dK)
 | [] => trivial
 | _ :: l => ⟨⟨trivial, trivial, trivial, trivial, trivial⟩, aAd l⟩
theorem aHe (ρ : Nat → Nat) (l : List Tz) : kN ρ (l.map dK) = l.map dK := yH fun _ _ => rfl
def aUu : List (V × V) := [(.str [38, 38], .int .i64 1), (.str [61, 61], .int .i64 2), (.str [60], .int .i64 2), (.str [43], .int .i64 3), (.str [45], .int .i64 3), (.str [42], .int .i64 4)]
def rdC (M : Nat) (l : List Tz) (a d : Nat) : List V := [.lst (l.map dK) .unk, .int .i64 a, .int .i64 d, .map M]
def rdO (M : Nat) (l : List Tz) (a d : Nat) : Obj := .cells false (rdC M l a d)
def nL : Obj := .map aUu
def rdL (l : List Tz) (a d : Nat) : OL := [(1000, rdO 1001 l a d), (1001, nL)]
theorem aAn (ρ : Nat → Nat) (l : List Tz) (a d : Nat) : Obj.ren ρ (rdO 1001 l a d) = rdO (ρ 1001) l a d := by
 simp only [rdO, rdC, Obj.ren, dP, V.ren, aHe, LC.ren]
theorem nA {D : Nat → Prop} {M : Nat} (h : D M) (l : List Tz) (a d : Nat) : Obj.In D (rdO M l a d) := ⟨⟨aAd _, trivial⟩, trivial, trivial, h, trivial⟩
theorem kE {D : Nat → Prop} : Obj.In D nL := ⟨⟨trivial, trivial⟩, ⟨trivial, trivial⟩, ⟨trivial, trivial⟩, ⟨trivial, trivial⟩, ⟨trivial, trivial⟩, ⟨trivial, trivial⟩, trivial⟩
theorem cX {D : Nat → Prop} (h : D 1001) (l : List Tz) (a d : Nat) : fR D (rdL l a d) := ⟨nA h l a d, kE, trivial⟩
theorem aAy {h : H} {b : Nat} {o : Obj} (hb : h.ob b = some o) : h.put b o = h := by
 cases h with
 | mk nx ob lc =>
  simp only [H.put]
  congr 1
  funext k
  split
  ·rename_i e; rw [e]; exact hb.symm
  ·rfl
theorem aDq {f : FuncId} {xs : List V} {l : List Tz} {a d a' d' : Nat} {r : AEnd} (core : SCall Go.Proofs.Tryd.prog [] f (.ptr 1000 0 :: xs) none ⟨1002, og (rdL l a d), []⟩ r none ⟨1002, og (rdL l a' d'), []⟩)
  (has : Ins (fun _ => False) xs) (hr : r.In (fun _ => False)) {h : H} {R M : Nat} (hRM : R ≠ M) (hR : aF ≤ R) (hM : aF ≤ M) (h1 : h.ob R = some (rdO M l a d)) (h2 : h.ob M = some nL) :
  SCall Go.Proofs.Tryd.prog [] f (.ptr R 0 :: xs) none h r none (h.put R (rdO M l a' d')) := by
 refine SCall.aAo (n := 0) [R, M] rfl core (by simp [hRM]) (by simp [hR, hM]) (fun i => ?_) rfl (fun i c o hi ho => ?_) (cX (by show 1001 < 1002; decide) _ _ _) ⟨(by show 1000 < 1002; decide), Ins.mono (fun _ q => q.elim) has⟩ hr (cX (by show 1001 < 1002; decide) _ _ _) ?_ rfl rfl (fun i hi => ?_) (fun c hc => ?_)
 ·simp only [rdL, aT]
  show _ ↔ 1000 ≤ i ∧ i < 1002
  split
  ·simp; omega
  ·split
   ·simp; omega
   ·simp [og]; omega
 ·match i, hi with
  | 0, hi =>
   cases hi; cases ho
   rw [aAn]; exact h1
  | 1, hi =>
   cases hi; cases ho
   exact h2
 ·show _ :: dP _ xs = _
  rw [fW (D := fun _ => False) (fun _ q => q.elim) has]; rfl
 ·have hi : i < 2 := hi
  match i, hi with
  | 0, _ =>
   show (h.put R _).ob R = _
   simp only [H.put, if_true]
   show some _ = some (Obj.ren _ (rdO 1001 l a' d'))
   rw [aAn]; rfl
  | 1, _ =>
   show (h.put R _).ob M = _
   simp only [H.put, if_neg hRM.symm]
   exact h2
 ·have h0 : R ≠ c := hc 0 (by show 0 < 2; decide)
  simp only [H.put]
  rw [if_neg (fun e => h0 e.symm)]
theorem zL {f : FuncId} {xs : List V} {l : List Tz} {a d : Nat} {r : AEnd} (core : SCall Go.Proofs.Tryd.prog [] f (.ptr 1000 0 :: xs) none ⟨1002, og (rdL l a d), []⟩ r none ⟨1002, og (rdL l a d), []⟩)
  (has : Ins (fun _ => False) xs) (hr : r.In (fun _ => False)) {h : H} {R M : Nat} (hRM : R ≠ M) (hR : aF ≤ R) (hM : aF ≤ M) (h1 : h.ob R = some (rdO M l a d)) (h2 : h.ob M = some nL) : SCall Go.Proofs.Tryd.prog [] f (.ptr R 0 :: xs) none h r none h := by
 have := aDq core has hr hRM hR hM h1 h2
 rwa [aAy h1] at this
theorem iV {l : List Tz} {a : Nat} {t : Tz} (h : l[a]? = some t) : aC l a = t := by simp only [aC, h]
theorem oG {l : List Tz} {a : Nat} (h : l.length ≤ a) : aC l a = ⟨0, wU l, wU l, []⟩ := by simp only [aC, List.getElem?_eq_none h]
theorem uL {l : List Tz} {t : Tz} (h : l[l.length - 1]? = some t) : wU l = t.e := by simp only [wU, List.getLast?_eq_getElem?, h]
theorem nE {a : Nat} (h : 1 ≤ a) (hb : a < big) : IntKind.i64.wrap ((a : Int) - 1) = ((a - 1 : Nat) : Int) := aSg (b := 1) h hb
theorem aPp (l : List Tz) (a d : Nat) (hl : l.length < 4294967296) : SCall Go.Proofs.Tryd.prog [] 32 [.ptr 1000 0] none ⟨1002, og (rdL l a d), []⟩ (.ret (.agg (dK (aC l a)))) none ⟨1002, og (rdL l a d), []⟩ := by
 refine SCall.aV (fn := Go.Proofs.Tryd.f32) (by kernel_rfl) aXm (by kernel_rfl) (by kernel_rfl) (Nat.le_refl _) rfl ((cX (by show 1001 < 1002; decide) _ _ _)) (by exact ⟨trivial, trivial, trivial, trivial, trivial⟩) ?_
 unfold aWk
 unfold rdL rdO rdC
 repeat (first | refine WR.seq ?_ | refine WR.block ?_ | refine WR.scope ?_ | refine WR.skip ?_ | refine WR.exit ?_ | refine WR.aK rfl ?_ | refine WR.aG rfl ?_ | refine WR.reg (WQ.aA [] 1000 _ _ _ _ rfl ?_) | refine WQ.aB ?_ | refine WR.aW bE (DW.aA [] 1000 _ _ _ _ _ _ rfl ?_))
 refine DW.dN (by repeat (first | exact .nil | refine PendR.aI rfl ?_ | refine PendR.aH rfl ?_ | refine PendR.aD rfl ?_)) ?_
 rw [List.length_map]
 by_cases h : a < l.length
 ·rw [show decide ((a : Int) < (l.length : Int)) = true from decide_eq_true (by omega)]
  have hc : l[a]? = some l[a] := List.getElem?_eq_getElem h
  rw [iV hc]
  generalize l[a] = t at hc ⊢
  refine WR.aK rfl ?_
  refine WR.seq (WR.aW bE (DW.aA [] 8 _ _ _ _ _ _ rfl ?_))
  refine DW.kX rfl (fun h => mH (cs := dK t) rfl rfl (by rw [List.getElem?_map, hc]; rfl) rfl) rfl (DW.aA [] 1000 _ _ _ _ _ _ rfl ?_)
  refine DW.stS (by repeat (first | exact .nil | refine PendR.aI rfl ?_ | refine PendR.aH rfl ?_ | refine PendR.aD rfl ?_)) rfl rfl rfl rfl (DW.aA [] 1000 _ _ _ _ _ _ rfl (DW.dN (by repeat (first | exact .nil | refine PendR.aI rfl ?_ | refine PendR.aH rfl ?_ | refine PendR.aD rfl ?_)) ?_))
  refine WR.ret ⟨rfl, rfl, ⟨_, rfl, by repeat (first | exact VLe.refl _ | exact VLe.unk _ _ | refine VLe.tup ?_ | refine VLe.agg ?_ | exact VLL.nil | refine VLL.cons ?_ ?_)⟩, fun b _ => rfl⟩
 ·rw [show decide ((a : Int) < (l.length : Int)) = false from decide_eq_false (by omega)]
  rw [oG (by omega)]
  refine WR.aG rfl (WR.skip ?_)
  repeat (first | refine WR.seq ?_ | refine WR.block ?_ | refine WR.scope ?_ | refine WR.skip ?_ | refine WR.exit ?_ | refine WR.aK rfl ?_ | refine WR.aG rfl ?_ | refine WR.reg (WQ.aA [] 1000 _ _ _ _ rfl ?_) | refine WQ.aB ?_ | refine WR.aW bE (DW.aA [] 1000 _ _ _ _ _ _ rfl ?_))
  rw [List.length_map]
  rcases Nat.eq_zero_or_pos l.length with h0 | h0
  ·have h0 : l = [] := List.eq_nil_of_length_eq_zero h0
   subst h0
   repeat (first | refine WR.seq ?_ | refine WR.block ?_ | refine WR.scope ?_ | refine WR.skip ?_ | refine WR.exit ?_ | refine WR.aK rfl ?_ | refine WR.aG rfl ?_ | refine WR.reg (WQ.aA [] 1000 _ _ _ _ rfl ?_) | refine WQ.aB ?_ | refine WR.aW bE (DW.aA [] 1000 _ _ _ _ _ _ rfl ?_))
   refine WR.ret ⟨rfl, rfl, ⟨_, rfl, by repeat (first | exact VLe.refl _ | exact VLe.unk _ _ | refine VLe.tup ?_ | refine VLe.agg ?_ | exact VLL.nil | refine VLL.cons ?_ ?_)⟩, fun b _ => rfl⟩
  ·rw [show decide ((l.length : Int) > 0) = true from decide_eq_true (by omega)]
   have hc : l[l.length - 1]? = some l[l.length - 1] := List.getElem?_eq_getElem (by omega)
   rw [uL hc]
   generalize l[l.length - 1] = t at hc ⊢
   refine WR.aK rfl ?_
   refine WR.reg (WQ.aA [] 6 _ _ _ _ rfl ?_)
   rw [nE (by omega) (by unfold big; omega)]
   refine WQ.bQ rfl rfl rfl (mH (cs := dK t) rfl rfl (by rw [List.getElem?_map, hc]; rfl) rfl) rfl (WQ.aA [] 1000 _ _ _ _ rfl (WQ.aB ?_))
   unfold aHx
   repeat (first | refine WR.seq ?_ | refine WR.block ?_ | refine WR.scope ?_ | refine WR.skip ?_ | refine WR.exit ?_ | refine WR.aK rfl ?_ | refine WR.aG rfl ?_ | refine WR.reg (WQ.aA [] 1000 _ _ _ _ rfl ?_) | refine WQ.aB ?_ | refine WR.aW bE (DW.aA [] 1000 _ _ _ _ _ _ rfl ?_))
   refine WR.ret ⟨rfl, rfl, ⟨_, rfl, by repeat (first | exact VLe.refl _ | exact VLe.unk _ _ | refine VLe.tup ?_ | refine VLe.agg ?_ | exact VLL.nil | refine VLL.cons ?_ ?_)⟩, fun b _ => rfl⟩
theorem oW {l : List Tz} {a d : Nat} (hl : l.length < 4294967296) {h : H} {R M : Nat} (hRM : R ≠ M) (hR : aF ≤ R) (hM : aF ≤ M) (h1 : h.ob R = some (rdO M l a d)) (h2 : h.ob M = some nL) :
  SCall Go.Proofs.Tryd.prog [] 32 [.ptr R 0] none h (.ret (.agg (dK (aC l a)))) none h :=
 zL (aPp l a d hl) trivial ⟨trivial, trivial, trivial, trivial, trivial⟩ hRM hR hM h1 h2
theorem aSc (l : List Tz) (a d : Nat) (hl : l.length < 4294967296) (k : Int) (s : List Nat) : SCall Go.Proofs.Tryd.prog [] 49 [.ptr 1000 0, .int .i64 k, .str s] none ⟨1002, og (rdL l a d), []⟩ (.ret (.bool (isF l a k s))) none ⟨1002, og (rdL l a d), []⟩ := by
 refine SCall.aV (fn := Go.Proofs.Tryd.f49) (by kernel_rfl) aYs (by kernel_rfl) (by kernel_rfl) (Nat.le_refl _) rfl ((cX (by show 1001 < 1002; decide) _ _ _)) trivial ?_
 unfold aYz
 repeat (first | refine WR.seq ?_ | refine WR.block ?_ | refine WR.scope ?_ | refine WR.skip ?_ | refine WR.exit ?_ | refine WR.aK rfl ?_ | refine WR.aG rfl ?_ | refine WR.reg (WQ.aA [] 1000 _ _ _ _ rfl ?_) | refine WQ.aB ?_ | refine WR.aW bE (DW.aA [] 1000 _ _ _ _ _ _ rfl ?_))
 refine WQ.aE rfl rfl rfl rfl rfl (oW (l := l) (a := a) (d := d) (M := 1001) hl (by decide) (by decide) (by decide) rfl rfl) .base rfl (WQ.aA [] 1000 _ _ _ _ rfl (WQ.aB ?_))
 unfold isF
 generalize aC l a = t
 repeat (first | refine WR.seq ?_ | refine WR.block ?_ | refine WR.scope ?_ | refine WR.skip ?_ | refine WR.exit ?_ | refine WR.aK rfl ?_ | refine WR.aG rfl ?_ | refine WR.reg (WQ.aA [] 1000 _ _ _ _ rfl ?_) | refine WQ.aB ?_ | refine WR.aW bE (DW.aA [] 1000 _ _ _ _ _ _ rfl ?_))
 refine WR.reg (WQ.aA [] 5 _ _ _ _ rfl ?_)
 refine WQ.guard 14 rfl (fun e => ?_) (fun e => ?_)
 ·rw [e]
  refine WQ.aA [] 1000 _ _ _ _ rfl (WQ.aB ?_)
  refine WR.ret ⟨rfl, rfl, ⟨_, rfl, by repeat (first | exact VLe.refl _ | exact VLe.unk _ _ | refine VLe.tup ?_ | refine VLe.agg ?_ | exact VLL.nil | refine VLL.cons ?_ ?_)⟩, fun b _ => rfl⟩
 ·rw [e]
  refine WQ.aA [] 1000 _ _ _ _ rfl (WQ.aB ?_)
  refine WR.ret ⟨rfl, rfl, ⟨_, rfl, by repeat (first | exact VLe.refl _ | exact VLe.unk _ _ | refine VLe.tup ?_ | refine VLe.agg ?_ | exact VLL.nil | refine VLL.cons ?_ ?_)⟩, fun b _ => rfl⟩
theorem iM {l : List Tz} {a d : Nat} {k : Int} {s : List Nat} (hl : l.length < 4294967296) {h : H} {R M : Nat} (hRM : R ≠ M) (hR : aF ≤ R) (hM : aF ≤ M) (h1 : h.ob R = some (rdO M l a d)) (h2 : h.ob M = some nL) :
  SCall Go.Proofs.Tryd.prog [] 49 [.ptr R 0, .int .i64 k, .str s] none h (.ret (.bool (isF l a k s))) none h :=
 zL (aSc l a d hl k s) ⟨trivial, trivial, trivial⟩ trivial hRM hR hM h1 h2
def eV (p c : Int) : List PE := [⟨.iface 25 (.agg [.int .i64 p, .int .i64 c]), false⟩]
theorem bT {D : Nat → Prop} {p c : Int} : AEnd.In D (.pan (eV p c)) := by
 intro e he
 rw [eV, List.mem_singleton] at he
 subst he
 exact ⟨trivial, trivial, trivial⟩
theorem aLb (l : List Tz) (a d : Nat) (hl : l.length < 4294967296) (c : Int) : SCall Go.Proofs.Tryd.prog [] 22 [.ptr 1000 0, .int .i64 c] none ⟨1002, og (rdL l a d), []⟩ (.pan (eV (aC l a).a c)) none ⟨1002, og (rdL l a d), []⟩ := by
 refine SCall.aV (fn := Go.Proofs.Tryd.f22) (by kernel_rfl) aVs (by kernel_rfl) (by kernel_rfl) (Nat.le_refl _) rfl ((cX (by show 1001 < 1002; decide) _ _ _)) bT ?_
 unfold aWs
 repeat (first | refine WR.seq ?_ | refine WR.block ?_ | refine WR.scope ?_ | refine WR.skip ?_ | refine WR.exit ?_ | refine WR.aK rfl ?_ | refine WR.aG rfl ?_ | refine WR.reg (WQ.aA [] 1000 _ _ _ _ rfl ?_) | refine WQ.aB ?_ | refine WR.aW bE (DW.aA [] 1000 _ _ _ _ _ _ rfl ?_))
 refine WQ.aE rfl rfl rfl rfl rfl (oW (l := l) (a := a) (d := d) (M := 1001) hl (by decide) (by decide) (by decide) rfl rfl) .base rfl (WQ.aA [] 1000 _ _ _ _ rfl ?_)
 refine WQ.aYe rfl rfl rfl ⟨rfl, rfl, rfl, fun _ _ => rfl⟩
theorem fY {l : List Tz} {a d : Nat} {c : Int} (hl : l.length < 4294967296) {h : H} {R M : Nat} (hRM : R ≠ M) (hR : aF ≤ R) (hM : aF ≤ M) (h1 : h.ob R = some (rdO M l a d)) (h2 : h.ob M = some nL) :
  SCall Go.Proofs.Tryd.prog [] 22 [.ptr R 0, .int .i64 c] none h (.pan (eV (aC l a).a c)) none h :=
 zL (aLb l a d hl c) ⟨trivial, trivial⟩ bT hRM hR hM h1 h2
end Go.VM
end
section
/- Expressions: what a reader's calls come to; must, within. -/
set_option maxRecDepth 100000
set_option linter.unusedVariables false
set_option linter.unusedSimpArgs false
namespace Go.VM
open Go.RowKit
inductive R (α : Type) where
 | ok (v : α) (a : Nat)
 | er (a d : Nat) (p c : Int)
 | out
def R.aMv {α : Type} (enc : α → V) : R α → AEnd
 | .ok v _ => .ret (enc v)
 | .er _ _ p c => .pan (eV p c)
 | .out => .ret (.bool false)
def R.at' {α : Type} : R α → Nat
 | .ok _ a => a
 | .er a _ _ _ => a
 | .out => 0
def R.dp {α : Type} (d0 : Nat) : R α → Nat
 | .ok _ _ => d0
 | .er _ d _ _ => d
 | .out => 0
def R.gZ {α : Type} : R α → Bool
 | .out => true
 | _ => false
def R.bind {α β : Type} (r : R α) (f : α → Nat → R β) : R β :=
 match r with
 | .ok v a => f v a
 | .er a d p c => .er a d p c
 | .out => .out
def hH {α : Type} (l : List Tz) (a d : Nat) (c : Int) : R α := .er a d (aC l a).a c
def Sp {α : Type} (f : FuncId) (xs : List V) (l : List Tz) (a d : Nat) (enc : α → V) (r : R α) : Prop :=
 r.gZ = false → SCall Go.Proofs.Tryd.prog [] f (.ptr 1000 0 :: xs) none ⟨1002, og (rdL l a d), []⟩ (r.aMv enc) none ⟨1002, og (rdL l r.at' (r.dp d)), []⟩
theorem Sp.ok {α : Type} {f : FuncId} {xs : List V} {l : List Tz} {a d : Nat} {enc : α → V} {v : α} {a' : Nat} (s : Sp f xs l a d enc (.ok v a')) (hx : Ins (fun _ => False) xs) (hv : (enc v).In (fun _ => False)) {h : H} {R M : Nat} (hRM : R ≠ M) (hR : aF ≤ R) (hM : aF ≤ M) (h1 : h.ob R = some (rdO M l a d)) (h2 : h.ob M = some nL) :
  SCall Go.Proofs.Tryd.prog [] f (.ptr R 0 :: xs) none h (.ret (enc v)) none (h.put R (rdO M l a' d)) := aDq (r := .ret (enc v)) (s rfl) hx hv hRM hR hM h1 h2
theorem Sp.er {α : Type} {f : FuncId} {xs : List V} {l : List Tz} {a d : Nat} {enc : α → V} {a' d' : Nat} {p c : Int} (s : Sp f xs l a d enc (.er a' d' p c)) (hx : Ins (fun _ => False) xs) {h : H} {R M : Nat} (hRM : R ≠ M) (hR : aF ≤ R) (hM : aF ≤ M) (h1 : h.ob R = some (rdO M l a d)) (h2 : h.ob M = some nL) :
  SCall Go.Proofs.Tryd.prog [] f (.ptr R 0 :: xs) none h (.pan (eV p c)) none (h.put R (rdO M l a' d')) := aDq (r := .pan (eV p c)) (s rfl) hx bT hRM hR hM h1 h2
theorem uZ {l : List Tz} {a : Nat} {k : Int} {s : List Nat} (h : isF l a k s = true) (hk : k ≠ 0) : l[a]? = some (aC l a) := by
 simp only [isF, Bool.and_eq_true, decide_eq_true_eq] at h
 cases hc : l[a]? with
 | some t => rw [iV hc]
 | none =>
  rw [aC, hc] at h
  exact absurd h.1.symm hk
def cJ (l : List Tz) (a d : Nat) (s : List Nat) : R Int := match isF l a 4 s with | true => .ok (aC l a).e (a + 1) | false => hH l a d 5
def aWf (n : Int) : V := .int .i64 n
theorem nS (l : List Tz) (a d : Nat) (hl : l.length < 4294967296) (s : List Nat) : Sp 55 [.str s] l a d aWf (cJ l a d s) := by
 intro _
 unfold cJ
 cases hi : isF l a 4 s with
 | false =>
  refine SCall.aV (fn := Go.Proofs.Tryd.f55) (by kernel_rfl) aTp (by kernel_rfl) (by kernel_rfl) (Nat.le_refl _) rfl ((cX (by show 1001 < 1002; decide) _ _ _)) bT ?_
  unfold aVo
  refine WR.seq (WR.reg (WQ.aA [] 1000 _ _ _ _ rfl (WQ.aB ?_)))
  refine WR.seq (WR.seq (WR.reg (WQ.aA [] 2 _ _ _ _ rfl ?_)))
  refine WQ.aE rfl rfl rfl rfl rfl (iM (l := l) (a := a) (d := d) (M := 1001) hl (by decide) (by decide) (by decide) rfl rfl) .base rfl (WQ.aA [] 1000 _ _ _ _ rfl (WQ.aB ?_))
  rw [hi]
  refine WR.aK rfl ?_
  refine WR.reg (WQ.aA [] 1 _ _ _ _ rfl ?_)
  refine WQ.bK rfl rfl rfl rfl rfl (fY (l := l) (a := a) (d := d) (M := 1001) hl (by decide) (by decide) (by decide) rfl rfl) .base ⟨rfl, rfl, rfl, fun _ _ => rfl⟩
 | true =>
  refine SCall.aV (fn := Go.Proofs.Tryd.f55) (by kernel_rfl) aTp (by kernel_rfl) (by kernel_rfl) (Nat.le_refl _) rfl ((cX (by show 1001 < 1002; decide) _ _ _)) trivial ?_
  unfold aVo
  refine WR.seq (WR.reg (WQ.aA [] 1000 _ _ _ _ rfl (WQ.aB ?_)))
  refine WR.seq (WR.seq (WR.reg (WQ.aA [] 2 _ _ _ _ rfl ?_)))
  refine WQ.aE rfl rfl rfl rfl rfl (iM (l := l) (a := a) (d := d) (M := 1001) hl (by decide) (by decide) (by decide) rfl rfl) .base rfl (WQ.aA [] 1000 _ _ _ _ rfl (WQ.aB ?_))
  rw [hi]
  refine WR.aG rfl (WR.skip ?_)
  have hc := uZ hi (by decide)
  have hlt := (List.getElem?_eq_some_iff.1 hc).1
  generalize aC l a = t at hc
  unfold aGc
  refine WR.seq (WR.reg (WQ.aA [] 5 _ _ _ _ rfl ?_))
  rw [bS (by unfold big; omega)]
  refine WQ.aA [] 1000 _ _ _ _ rfl (WQ.aB ?_)
  refine WR.seq (WR.aW bE (DW.aA [] 9 _ _ _ _ _ _ rfl ?_))
  rw [nE (by omega) (by unfold big; omega), Nat.add_sub_cancel]
  refine DW.kX rfl (fun h => mH (cs := dK t) rfl rfl (by rw [List.getElem?_map, hc]; rfl) rfl) rfl (DW.aA [] 1000 _ _ _ _ _ _ rfl ?_)
  refine DW.dN (by repeat (first | exact .nil | refine PendR.aI rfl ?_ | refine PendR.aH rfl ?_ | refine PendR.aD rfl ?_)) ?_
  refine WR.ret ⟨rfl, rfl, ⟨_, rfl, by repeat (first | exact VLe.refl _ | exact VLe.unk _ _ | refine VLe.tup ?_ | refine VLe.agg ?_ | exact VLL.nil | refine VLL.cons ?_ ?_)⟩, fun b _ => rfl⟩
def aY {α : Type} (l : List Tz) (a d : Nat) (f : Nat → Nat → R α) : R α := if d = 30 then hH l a d 6 else f (a + 1) (d + 1)
def pG (l : List Tz) (a d : Nat) (rest : OL) : OL := (1000, rdO 1001 l a d) :: (1001, nL) :: rest
theorem sX (l : List Tz) (a : Nat) (hl : l.length < 4294967296) (nx : Nat) (hnx : 1002 ≤ nx) (rest : OL) (hB : olB nx rest = true) (hI : fR (· < nx) rest) (g : V) :
  SCall Go.Proofs.Tryd.prog [] 50 [.ptr 1000 0, g] none ⟨nx, og (pG l a 30 rest), []⟩ (.pan (eV (aC l a).a 6)) none ⟨nx, og (pG l a 30 rest), []⟩ := by
 have e1 : Nat.blt 1000 nx = true := by rw [Nat.blt_eq]; omega
 have e2 : Nat.blt 1001 nx = true := by rw [Nat.blt_eq]; omega
 refine SCall.aV (fn := Go.Proofs.Tryd.f50) (by kernel_rfl) aPm (by kernel_rfl) (by kernel_rfl) (Nat.le_refl _) (by simp only [pG, olB, e1, e2, hB]; rfl) ⟨nA (by show 1001 < nx; omega) _ _ _, kE, hI⟩ bT ?_
 unfold aQf
 refine WR.seq (WR.seq (WR.reg (WQ.aA [] 1000 _ _ _ _ rfl (WQ.aB ?_))))
 refine WR.aK rfl ?_
 refine WR.reg (WQ.aA [] 1 _ _ _ _ rfl ?_)
 refine WQ.bK rfl rfl rfl rfl rfl (fY (l := l) (a := a) (d := 30) (M := 1001) hl (by decide) (by decide) (by decide) rfl rfl) .base ⟨rfl, rfl, rfl, fun _ _ => rfl⟩
theorem xA (l : List Tz) (a d : Nat) (hl : l.length < 4294967296) (ha : a < l.length) (hd : d < 30) (nx nx' : Nat) (hnx : 1002 ≤ nx) (hnn : nx ≤ nx') (rest rest' : OL) (hB : olB nx' rest' = true) (hI : fR (· < nx') rest') (f : FuncId) (caps : List V) {a' d' : Nat} {p c : Int}
  (sc : SCall Go.Proofs.Tryd.prog [] f caps none ⟨nx, og (pG l (a + 1) (d + 1) rest), []⟩ (.pan (eV p c)) none ⟨nx', og (pG l a' d' rest'), []⟩) :
  SCall Go.Proofs.Tryd.prog [] 50 [.ptr 1000 0, .fn (.func f) [] caps] none ⟨nx, og (pG l a d rest), []⟩ (.pan (eV p c)) none ⟨nx', og (pG l a' d' rest'), []⟩ := by
 have e1 : Nat.blt 1000 nx' = true := by rw [Nat.blt_eq]; omega
 have e2 : Nat.blt 1001 nx' = true := by rw [Nat.blt_eq]; omega
 refine SCall.aV (fn := Go.Proofs.Tryd.f50) (by kernel_rfl) aPm (by kernel_rfl) (by kernel_rfl) hnn (by simp only [pG, olB, e1, e2, hB]; rfl) ⟨nA (by show 1001 < nx'; omega) _ _ _, kE, hI⟩ bT ?_
 unfold aQf
 refine WR.seq (WR.seq (WR.reg (WQ.aA [] 1000 _ _ _ _ rfl (WQ.aB ?_))))
 rw [show decide ((d : Int) = 30) = false from decide_eq_false (by omega)]
 refine WR.aG rfl (WR.skip ?_)
 unfold zK
 refine WR.seq (WR.reg (WQ.aA [] 5 _ _ _ _ rfl ?_))
 rw [bS (by unfold big; omega)]
 refine WQ.aA [] 1000 _ _ _ _ rfl (WQ.aB ?_)
 refine WR.seq (WR.reg (WQ.aA [] 5 _ _ _ _ rfl ?_))
 rw [bS (by unfold big; omega)]
 refine WQ.aA [] 1000 _ _ _ _ rfl (WQ.aB ?_)
 refine WR.seq (WR.reg (WQ.aA [] 1 _ _ _ _ rfl ?_))
 exact WQ.bK rfl rfl rfl rfl rfl sc .base ⟨rfl, rfl, rfl, fun _ _ => rfl⟩
theorem xB (l : List Tz) (a d : Nat) (hl : l.length < 4294967296) (ha : a < l.length) (hd : d < 30) (nx nx' : Nat) (hnx : 1002 ≤ nx) (hnn : nx ≤ nx') (rest rest' : OL) (hB : olB nx' rest' = true) (hI : fR (· < nx') rest') (f : FuncId) (caps : List V) {a' : Nat}
  (sc : SCall Go.Proofs.Tryd.prog [] f caps none ⟨nx, og (pG l (a + 1) (d + 1) rest), []⟩ (.ret (.tup [])) none ⟨nx', og (pG l a' (d + 1) rest'), []⟩) :
  SCall Go.Proofs.Tryd.prog [] 50 [.ptr 1000 0, .fn (.func f) [] caps] none ⟨nx, og (pG l a d rest), []⟩ (.ret (.tup [])) none ⟨nx', og (pG l a' d rest'), []⟩ := by
 have e1 : Nat.blt 1000 nx' = true := by rw [Nat.blt_eq]; omega
 have e2 : Nat.blt 1001 nx' = true := by rw [Nat.blt_eq]; omega
 refine SCall.aV (fn := Go.Proofs.Tryd.f50) (by kernel_rfl) aPm (by kernel_rfl) (by kernel_rfl) hnn (by simp only [pG, olB, e1, e2, hB]; rfl) ⟨nA (by show 1001 < nx'; omega) _ _ _, kE, hI⟩ trivial ?_
 unfold aQf
 refine WR.seq (WR.seq (WR.reg (WQ.aA [] 1000 _ _ _ _ rfl (WQ.aB ?_))))
 rw [show decide ((d : Int) = 30) = false from decide_eq_false (by omega)]
 refine WR.aG rfl (WR.skip ?_)
 unfold zK
 refine WR.seq (WR.reg (WQ.aA [] 5 _ _ _ _ rfl ?_))
 rw [bS (by unfold big; omega)]
 refine WQ.aA [] 1000 _ _ _ _ rfl (WQ.aB ?_)
 refine WR.seq (WR.reg (WQ.aA [] 5 _ _ _ _ rfl ?_))
 rw [bS (by unfold big; omega)]
 refine WQ.aA [] 1000 _ _ _ _ rfl (WQ.aB ?_)
 refine WR.seq (WR.reg (WQ.aA [] 1 _ _ _ _ rfl ?_))
 refine WQ.aE rfl rfl rfl rfl rfl sc .base rfl ?_
 refine WQ.aA [] 1000 _ _ _ _ rfl (WQ.aB ?_)
 refine WR.reg (WQ.aA [] 5 _ _ _ _ rfl ?_)
 rw [nE (by omega) (by unfold big; omega), Nat.add_sub_cancel]
 refine WQ.aA [] 1000 _ _ _ _ rfl (WQ.aB ?_)
 exact ⟨rfl, rfl, ⟨_, rfl, VLe.refl _⟩, fun b _ => rfl⟩
end Go.VM
end
section
/- Expressions: numbers. -/
set_option maxRecDepth 100000
set_option linter.unusedVariables false
set_option linter.unusedSimpArgs false
namespace Go.VM
open Go.RowKit
@[irreducible] def dstep (n c : Nat) : Nat := n * 10 + (c - 48)
def aPb : Nat → List Nat → Nat
 | n, [] => n
 | n, c :: r => aPb (dstep n c) r
theorem aMc (n c : Nat) : dstep n c = n * 10 + (c - 48) := by unfold dstep; exact rfl
theorem aKz (n c : Nat) (r : List Nat) : aPb n (c :: r) = aPb (dstep n c) r := rfl
def aAt (s : List Nat) : Nat := aPb 0 s
def digits (s : List Nat) : Bool := s.all fun c => Nat.ble 48 c && Nat.ble c 57
theorem yI {s : List Nat} {i c : Nat} (h : digits s = true) (hc : s[i]? = some c) : 48 ≤ c ∧ c ≤ 57 := by
 have := List.all_eq_true.1 h c (List.mem_of_getElem? hc)
 simpa [Nat.ble_eq] using this
theorem aYi (n : Nat) : IntKind.u8.wrap (n : Int) = ((n % 256 : Nat) : Int) := by
 simp [IntKind.wrap, IntKind.bits, IntKind.signed]
def aYx (s : List Nat) (n i : Nat) : TM := [(5, .v (.str s)), (6, .v (.int .i64 n)), (47, .v (.lst (s.map fun (n : Nat) => [V.int .u8 n]) .unk)), (48, .v (.int .i64 s.length)), (49, .v (.int .i64 i))]
def pw (i : Nat) : Nat := 10 ^ i
theorem aRd (i : Nat) : pw (i + 1) = pw i * 10 := Nat.pow_succ ..
theorem aYk {k : Nat} (h : k ≤ 15) : pw k ≤ 1000000000000000 := by
 unfold pw
 have : 10 ^ k ≤ 10 ^ 15 := Nat.pow_le_pow_right (by decide) h
 exact Nat.le_trans this (by decide)
theorem aLg {QN : S → Prop} {QX : X → S → Prop} (s : List Nat) (hd : digits s = true) (hl : s.length ≤ 15) 
  (h0 : ∀ tm, TellT tm [] [(5, .v (.str s)), (6, .v (.int .i64 (aAt s)))] → QX (.exit 0) (SL.toS ⟨tm, [], none, 1000, [], []⟩)) : ∀ (m i n : Nat), i + m = s.length → n < pw i → aPb n (s.drop i) = aAt s →
  WLr Go.Proofs.Tryd.prog [] ⟨Go.Proofs.Tryd.f74.ntmps, none, 74⟩ tP (SL.toS ⟨aYx s n i, [], none, 1000, [], []⟩) QN QX := by
 intro m
 induction m with
 | zero =>
  intro i n hi hn he
  rw [List.drop_eq_nil_iff.2 (by omega)] at he
  have he : n = aAt s := he
  subst he
  unfold tP
  refine WLr.of ?_
  refine WR.seq (WR.reg (WQ.aA [] 1 _ _ _ _ rfl ?_))
  rw [show decide ((i : Int) < (s.length : Int)) = false from decide_eq_false (by omega)]
  refine WQ.aA [] 1000 _ _ _ _ rfl (WQ.aB (WR.seq (WR.aG rfl (WR.exit (h0 _ ?_)))))
  repeat (first | exact .nil | refine .cons rfl (.v (VLe.refl _)) ?_)
 | succ m ih =>
  intro i n hi hn he
  obtain ⟨c, hc, hdr⟩ : ∃ c, s[i]? = some c ∧ s.drop i = c :: s.drop (i + 1) := ⟨s[i], List.getElem?_eq_getElem (by omega), List.drop_eq_getElem_cons (by omega)⟩
  obtain ⟨hc1, hc2⟩ := yI hd hc
  rw [hdr, aKz] at he
  have hq := aMc n c
  generalize dstep n c = q at he hq
  have hp := aYk (k := i + 1) (by omega)
  have hn2 : q < pw (i + 1) := by rw [aRd]; omega
  unfold tP
  refine WLr.of ?_
  refine WR.seq (WR.reg (WQ.aA [] 1 _ _ _ _ rfl ?_))
  rw [show decide ((i : Int) < (s.length : Int)) = true from decide_eq_true (by omega)]
  refine WQ.aA [] 1000 _ _ _ _ rfl (WQ.aB (WR.seq (WR.aK rfl (WR.skip ?_))))
  refine WR.seq (WR.block (WR.seq (WR.reg ?_)))
  refine WQ.bQ rfl rfl rfl (mH (cs := [.int .u8 c]) rfl rfl (by rw [List.getElem?_map, hc]; rfl) rfl) rfl ?_
  refine WQ.aA [] 1000 _ _ _ _ rfl (WQ.aB ?_)
  refine WR.seq (WR.reg (WQ.aA [] 2 _ _ _ _ rfl ?_))
  rw [show IntKind.u8.wrap ((c : Int) - 48) = ((c - 48 : Nat) : Int) from by rw [show ((c : Int) - 48) = ((c - 48 : Nat) : Int) by omega, aYi]; congr 1; omega]
  refine WQ.aA [] 1000 _ _ _ _ rfl (WQ.aB ?_)
  refine WR.seq (WR.seq (WR.reg (WQ.aA [] 2 _ _ _ _ rfl ?_)))
  rw [show decide (((c - 48 : Nat) : Int) > 9) = false from decide_eq_false (by omega)]
  refine WQ.aA [] 1000 _ _ _ _ rfl (WQ.aB ?_)
  refine WR.aG rfl (WR.skip ?_)
  refine WR.reg (WQ.aA [] 2 _ _ _ _ rfl ?_)
  rw [show IntKind.i64.wrap ((n : Int) * 10) = ((n * 10 : Nat) : Int) from by rw [wrap64 (by omega) (by omega)]; simp]
  refine WQ.aA [] 2 _ _ _ _ rfl ?_
  rw [show IntKind.i64.wrap (((c - 48 : Nat) : Int)) = ((c - 48 : Nat) : Int) from by rw [wrap64 (by omega) (by omega)]]
  refine WQ.aA [] 1 _ _ _ _ rfl ?_
  rw [show IntKind.i64.wrap (((n * 10 : Nat) : Int) + ((c - 48 : Nat) : Int)) = (q : Int) from by rw [show (((n * 10 : Nat) : Int) + ((c - 48 : Nat) : Int)) = (q : Int) from by omega, wrap64 (by omega) (by omega)]]
  refine WQ.aA [] 1000 _ _ _ _ rfl (WQ.aB ?_)
  unfold aGa
  refine WR.reg (WQ.aA [] 1 _ _ _ _ rfl ?_)
  rw [bS (by unfold big; omega)]
  refine WQ.aA [] 1000 _ _ _ _ rfl (WQ.aB ?_)
  refine WIr.again (WLr.weak ?_ (ih (i + 1) q (by omega) hn2 he))
  refine SW.bF ?_ ?_
  ·repeat (first | exact .nil | refine .cons rfl (.v (VLe.refl _)) ?_ | refine .cons rfl (.l _ _ rfl) ?_ | refine .cons rfl (.v (VLe.unk _ _)) ?_)
  ·repeat (first | exact .nil | refine .cons rfl (.inl rfl) ?_)
theorem aRx {s : List Nat} (hd : digits s = true) (h1 : 1 ≤ s.length) (hl : s.length ≤ 15) (h : H) : SCall Go.Proofs.Tryd.prog [] 74 [.str s] none h (.ret (.tup [.int .i64 (aAt s), .eE])) none h := by
 refine SCall.dY rfl ?_ (by exact ⟨trivial, trivial⟩) (by exact ⟨trivial, trivial, trivial⟩) h
 refine SCall.listed (fn := Go.Proofs.Tryd.f74) (by kernel_rfl) aVu (by kernel_rfl) (by kernel_rfl) (Nat.le_refl _) rfl (trivial) (by exact ⟨trivial, trivial, trivial⟩) ?_
 unfold aYv
 obtain ⟨c, r, rfl⟩ : ∃ c r, s = c :: r := by cases s with | nil => simp at h1 | cons c r => exact ⟨c, r, rfl⟩
 obtain ⟨hc1, hc2⟩ := yI (i := 0) hd rfl
 refine WR.seq (WR.reg (WQ.aA [] 1000 _ _ _ _ rfl (WQ.aB ?_)))
 refine WR.seq (WR.reg (WQ.aA [] 1000 _ _ _ _ rfl (WQ.aB ?_)))
 repeat (refine WR.seq ?_)
 refine WR.reg (WQ.aA [] 12 _ _ _ _ rfl ?_)
 rw [show decide ((0 : Int) < ((c :: r).length : Int)) = true from decide_eq_true (by omega)]
 refine WQ.aA [] 3 _ _ _ _ rfl ?_
 rw [show decide (((c :: r).length : Int) < 19) = true from decide_eq_true (by omega)]
 refine WQ.aA [] 1000 _ _ _ _ rfl (WQ.aB ?_)
 repeat (refine WR.seq ?_)
 refine WR.aK rfl ?_
 repeat (refine WR.seq ?_)
 refine WR.reg (WQ.aA [] 1000 _ _ _ _ rfl (WQ.aB ?_))
 repeat (refine WR.seq ?_)
 refine WR.reg (WQ.aA [] 3 _ _ _ _ rfl ?_)
 rw [show decide ((c : Int) = 45) = false from decide_eq_false (by omega)]
 refine WQ.aA [] 4 _ _ _ _ rfl ?_
 rw [show decide ((c : Int) = 43) = false from decide_eq_false (by omega)]
 refine WQ.aA [] 1000 _ _ _ _ rfl (WQ.aB ?_)
 repeat (refine WR.seq ?_)
 refine WR.aG rfl (WR.skip ?_)
 unfold aIb
 repeat (refine WR.seq ?_)
 refine WR.reg (WQ.aA [] 1000 _ _ _ _ rfl (WQ.aB ?_))
 repeat (refine WR.seq ?_)
 refine WR.reg (WQ.aA [] 1000 _ _ _ _ rfl (WQ.aB ?_))
 rw [List.length_map]
 repeat (refine WR.seq ?_)
 refine (WR.block (WR.loop (WLr.weak (s := SL.toS ⟨aYx (c :: r) 0 0, [], none, 1000, [], []⟩) ?_ (aLg (c :: r) hd hl (fun tm ht => ?_) (c :: r).length 0 0 (by omega) (by decide) rfl))))
 ·refine SW.bF ?_ ?_
  ·repeat (first | exact .nil | refine .cons rfl (.v (VLe.refl _)) ?_ | refine .cons rfl (.l _ _ rfl) ?_ | refine .cons rfl (.v (VLe.unk _ _)) ?_)
  ·repeat (first | exact .nil | refine .cons rfl (.inl rfl) ?_)
 ·refine WR.weak (SW.bF ht .nil) ?_
  unfold aHu
  repeat (refine WR.seq ?_)
  refine WR.reg (WQ.aA [] 3 _ _ _ _ rfl ?_)
  rw [show decide ((c : Int) = 45) = false from decide_eq_false (by omega)]
  refine WQ.aA [] 1000 _ _ _ _ rfl (WQ.aB ?_)
  repeat (refine WR.seq ?_)
  refine WR.aG rfl (WR.skip ?_)
  unfold aIj
  repeat (first | refine WR.seq ?_ | refine WR.block ?_ | refine WR.scope ?_ | refine WR.skip ?_ | refine WR.exit ?_ | refine WR.aK rfl ?_ | refine WR.aG rfl ?_ | refine WR.reg (WQ.aA [] 1000 _ _ _ _ rfl ?_) | refine WQ.aB ?_ | refine WR.aW bE (DW.aA [] 1000 _ _ _ _ _ _ rfl ?_))
  exact WR.ret ⟨rfl, rfl, ⟨_, rfl, VLe.refl _⟩, fun _ _ => rfl⟩
theorem aQg {s : List Nat} (hd : digits s = true) (h1 : 1 ≤ s.length) (hl : s.length ≤ 15) (h : H) : SCall Go.Proofs.Tryd.prog [] 70 [.str s] none h (.ret (.tup [.int .i64 (aAt s), .eE])) none h := by
 refine SCall.dY rfl ?_ (by exact ⟨trivial, trivial⟩) (by exact ⟨trivial, trivial, trivial⟩) h
 refine SCall.listed (fn := Go.Proofs.Tryd.f70) (by kernel_rfl) aWe (by kernel_rfl) (by kernel_rfl) (Nat.le_refl _) rfl (trivial) (by exact ⟨trivial, trivial, trivial⟩) ?_
 unfold aVr
 refine WR.seq (WR.reg (WQ.aA [] 1000 _ _ _ _ rfl (WQ.aB ?_)))
 refine WR.seq (WR.reg (WQ.aA [] 1 _ _ _ _ rfl ?_))
 refine WQ.aE rfl rfl rfl rfl rfl (aRx hd h1 hl _) .base rfl ?_
 refine WQ.aA [] 1000 _ _ _ _ rfl (WQ.aB ?_)
 repeat (first | refine WR.seq ?_ | refine WR.block ?_ | refine WR.scope ?_ | refine WR.skip ?_ | refine WR.exit ?_ | refine WR.aK rfl ?_ | refine WR.aG rfl ?_ | refine WR.reg (WQ.aA [] 1000 _ _ _ _ rfl ?_) | refine WQ.aB ?_ | refine WR.aW bE (DW.aA [] 1000 _ _ _ _ _ _ rfl ?_))
 exact WR.ret ⟨rfl, rfl, ⟨_, rfl, VLe.refl _⟩, fun _ _ => rfl⟩
end Go.VM
end
section
/- Expressions: the number of a token. -/
set_option maxRecDepth 100000
set_option linter.unusedVariables false
set_option linter.unusedSimpArgs false
namespace Go.VM
open Go.RowKit
def sV (s : List Nat) : Bool := digits s && (Nat.ble 1 s.length && Nat.ble s.length 15)
def fX (l : List Tz) (s : List Nat) (a d : Nat) : R Int := match sV s with | true => .ok (aAt s) a | false => hH l a d 2
def aUk (s : List Nat) (i : Nat) : TM := [(0, .v (.ptr 1000 0)), (1, .v (.str s)), (10, .v (.lst (s.map fun (n : Nat) => [V.int .u8 n]) .unk)), (11, .v (.int .i64 s.length)), (12, .v (.int .i64 i))]
theorem aBu {QN : S → Prop} {QX : X → S → Prop} (l : List Tz) (a d : Nat) (hl : l.length < 4294967296) (s : List Nat) (hs : s.length < big)
  (h0 : digits s = true → ∀ tm, TellT tm [] [(0, .v (.ptr 1000 0)), (1, .v (.str s))] → QX (.exit 0) (SL.toS ⟨tm, [], none, 1002, rdL l a d, []⟩))
  (h1 : digits s = false → ∀ tm, QX (.panic (eV (aC l a).a 2)) (SL.toS ⟨tm, [], none, 1002, rdL l a d, []⟩)) : ∀ (m i : Nat), i + m = s.length → digits s = digits (s.drop i) →
  WLr Go.Proofs.Tryd.prog [] ⟨Go.Proofs.Tryd.f63.ntmps, none, 63⟩ tJ (SL.toS ⟨aUk s i, [], none, 1002, rdL l a d, []⟩) QN QX := by
 intro m
 induction m with
 | zero =>
  intro i hi he
  rw [List.drop_eq_nil_iff.2 (by omega)] at he
  have he : digits s = true := he
  unfold tJ
  refine WLr.of ?_
  repeat (refine WR.seq ?_)
  refine WR.reg (WQ.aA [] 1 _ _ _ _ rfl ?_)
  rw [show decide ((i : Int) < (s.length : Int)) = false from decide_eq_false (by omega)]
  refine WQ.aA [] 1000 _ _ _ _ rfl (WQ.aB ?_)
  repeat (refine WR.seq ?_)
  refine WR.aG rfl (WR.exit (h0 he _ ?_))
  repeat (first | exact .nil | refine .cons rfl (.v (VLe.refl _)) ?_)
 | succ m ih =>
  intro i hi he
  obtain ⟨c, hc, hdr⟩ : ∃ c, s[i]? = some c ∧ s.drop i = c :: s.drop (i + 1) := ⟨s[i], List.getElem?_eq_getElem (by omega), List.drop_eq_getElem_cons (by omega)⟩
  rw [hdr] at he
  have he : digits s = ((Nat.ble 48 c && Nat.ble c 57) && digits (s.drop (i + 1))) := he
  unfold tJ
  refine WLr.of ?_
  repeat (refine WR.seq ?_)
  refine WR.reg (WQ.aA [] 1 _ _ _ _ rfl ?_)
  rw [show decide ((i : Int) < (s.length : Int)) = true from decide_eq_true (by omega)]
  refine WQ.aA [] 1000 _ _ _ _ rfl (WQ.aB ?_)
  repeat (refine WR.seq ?_)
  refine WR.aK rfl (WR.skip ?_)
  repeat (refine WR.seq ?_)
  refine WR.block ?_
  repeat (refine WR.seq ?_)
  refine WR.reg ?_
  refine WQ.bQ rfl rfl rfl (mH (cs := [.int .u8 c]) rfl rfl (by rw [List.getElem?_map, hc]; rfl) rfl) rfl ?_
  refine WQ.aA [] 1000 _ _ _ _ rfl (WQ.aB ?_)
  repeat (refine WR.seq ?_)
  refine WR.reg (WQ.aA [] 3 _ _ _ _ rfl ?_)
  by_cases hc1 : c < 48
  ·rw [show decide ((c : Int) < 48) = true from decide_eq_true (by omega)]
   refine WQ.aA [] 1000 _ _ _ _ rfl (WQ.aB ?_)
   repeat (refine WR.seq ?_)
   refine WR.aK rfl ?_
   have e : digits s = false := by rw [he, show Nat.ble 48 c = false from by cases hq : Nat.ble 48 c with | false => rfl | true => exact absurd (Nat.le_of_ble_eq_true hq) (by omega)]; rfl
   repeat (refine WR.seq ?_)
   refine WR.reg (WQ.aA [] 1 _ _ _ _ rfl ?_)
   refine WQ.bK rfl rfl rfl rfl rfl (fY (l := l) (a := a) (d := d) (M := 1001) hl (by decide) (by decide) (by decide) rfl rfl) .base (h1 e _)
  ·rw [show decide ((c : Int) < 48) = false from decide_eq_false (by omega)]
   refine WQ.aA [] 2 _ _ _ _ rfl ?_
   by_cases hc2 : c > 57
   ·rw [show decide ((c : Int) > 57) = true from decide_eq_true (by omega)]
    refine WQ.aA [] 1000 _ _ _ _ rfl (WQ.aB ?_)
    repeat (refine WR.seq ?_)
    refine WR.aK rfl ?_
    have e : digits s = false := by rw [he, show Nat.ble c 57 = false from by cases hq : Nat.ble c 57 with | false => rfl | true => exact absurd (Nat.le_of_ble_eq_true hq) (by omega), Bool.and_false]; rfl
    repeat (refine WR.seq ?_)
    refine WR.reg (WQ.aA [] 1 _ _ _ _ rfl ?_)
    refine WQ.bK rfl rfl rfl rfl rfl (fY (l := l) (a := a) (d := d) (M := 1001) hl (by decide) (by decide) (by decide) rfl rfl) .base (h1 e _)
   ·rw [show decide ((c : Int) > 57) = false from decide_eq_false (by omega)]
    refine WQ.aA [] 1000 _ _ _ _ rfl (WQ.aB ?_)
    repeat (refine WR.seq ?_)
    refine WR.aG rfl (WR.skip ?_)
    have e : digits s = digits (s.drop (i + 1)) := by rw [he, show Nat.ble 48 c = true from Nat.ble_eq.mpr (by omega), show Nat.ble c 57 = true from Nat.ble_eq.mpr (by omega)]; rfl
    unfold aGj
    repeat (refine WR.seq ?_)
    refine WR.reg (WQ.aA [] 1 _ _ _ _ rfl ?_)
    rw [bS (by omega)]
    refine WQ.aA [] 1000 _ _ _ _ rfl (WQ.aB ?_)
    refine WIr.again (WLr.weak ?_ (ih (i + 1) (by omega) e))
    refine SW.bF ?_ ?_
    ·repeat (first | exact .nil | refine .cons rfl (.v (VLe.refl _)) ?_ | refine .cons rfl (.l _ _ rfl) ?_ | refine .cons rfl (.v (VLe.unk _ _)) ?_)
    ·repeat (first | exact .nil | refine .cons rfl (.inl rfl) ?_)
theorem aCl (l : List Tz) (a d : Nat) (hl : l.length < 4294967296) (s : List Nat) (hs : s.length < big) : Sp 63 [.str s] l a d aWf (fX l s a d) := by
 intro _
 unfold fX
 cases hi : sV s with
 | false =>
  refine SCall.aV (fn := Go.Proofs.Tryd.f63) (by kernel_rfl) aSy (by kernel_rfl) (by kernel_rfl) (Nat.le_refl _) rfl ((cX (by show 1001 < 1002; decide) _ _ _)) bT ?_
  unfold aTz
  repeat (refine WR.seq ?_)
  refine WR.reg (WQ.aA [] 1000 _ _ _ _ rfl (WQ.aB ?_))
  repeat (refine WR.seq ?_)
  refine WR.reg (WQ.aA [] 1000 _ _ _ _ rfl (WQ.aB ?_))
  rw [List.length_map]
  repeat (refine WR.seq ?_)
  refine WR.block (WR.loop (WLr.weak (s := SL.toS ⟨aUk s 0, [], none, 1002, rdL l a d, []⟩) ?_ (aBu l a d hl s hs (fun hd tm ht => ?_) (fun _ tm => ⟨rfl, rfl, rfl, fun _ _ => rfl⟩) s.length 0 (by omega) rfl)))
  ·refine SW.bF ?_ ?_
   ·repeat (first | exact .nil | refine .cons rfl (.v (VLe.refl _)) ?_ | refine .cons rfl (.l _ _ rfl) ?_ | refine .cons rfl (.v (VLe.unk _ _)) ?_)
   ·repeat (first | exact .nil | refine .cons rfl (.inl rfl) ?_)
  ·refine WR.weak (SW.bF ht .nil) ?_
   unfold sV at hi
   rw [hd, Bool.true_and] at hi
   unfold aAh
   repeat (refine WR.seq ?_)
   refine WR.reg (WQ.aA [] 4 _ _ _ _ rfl ?_)
   by_cases h1 : s.length < 1
   ·rw [show decide ((s.length : Int) < 1) = true from decide_eq_true (by omega)]
    refine WQ.aA [] 1000 _ _ _ _ rfl (WQ.aB ?_)
    repeat (refine WR.seq ?_)
    refine WR.aK rfl ?_
    repeat (refine WR.seq ?_)
    refine WR.reg (WQ.aA [] 1 _ _ _ _ rfl ?_)
    refine WQ.bK rfl rfl rfl rfl rfl (fY (l := l) (a := a) (d := d) (M := 1001) hl (by decide) (by decide) (by decide) rfl rfl) .base ⟨rfl, rfl, rfl, fun _ _ => rfl⟩
   ·rw [show decide ((s.length : Int) < 1) = false from decide_eq_false (by omega)]
    refine WQ.aA [] 3 _ _ _ _ rfl ?_
    have h2 : s.length > 15 := by
     rw [show Nat.ble 1 s.length = true from Nat.ble_eq.mpr (by omega), Bool.true_and] at hi
     rcases Nat.lt_or_ge 15 s.length with h | h
     ·exact h
     ·rw [Nat.ble_eq.mpr h] at hi; cases hi
    rw [show decide ((s.length : Int) > 15) = true from decide_eq_true (by omega)]
    refine WQ.aA [] 1000 _ _ _ _ rfl (WQ.aB ?_)
    repeat (refine WR.seq ?_)
    refine WR.aK rfl ?_
    repeat (refine WR.seq ?_)
    refine WR.reg (WQ.aA [] 1 _ _ _ _ rfl ?_)
    refine WQ.bK rfl rfl rfl rfl rfl (fY (l := l) (a := a) (d := d) (M := 1001) hl (by decide) (by decide) (by decide) rfl rfl) .base ⟨rfl, rfl, rfl, fun _ _ => rfl⟩
 | true =>
  unfold sV at hi
  simp only [Bool.and_eq_true, Nat.ble_eq] at hi
  obtain ⟨hd, h1, h2⟩ := hi
  refine SCall.aV (fn := Go.Proofs.Tryd.f63) (by kernel_rfl) aSy (by kernel_rfl) (by kernel_rfl) (Nat.le_refl _) rfl ((cX (by show 1001 < 1002; decide) _ _ _)) trivial ?_
  unfold aTz
  repeat (refine WR.seq ?_)
  refine WR.reg (WQ.aA [] 1000 _ _ _ _ rfl (WQ.aB ?_))
  repeat (refine WR.seq ?_)
  refine WR.reg (WQ.aA [] 1000 _ _ _ _ rfl (WQ.aB ?_))
  rw [List.length_map]
  repeat (refine WR.seq ?_)
  refine WR.block (WR.loop (WLr.weak (s := SL.toS ⟨aUk s 0, [], none, 1002, rdL l a d, []⟩) ?_ (aBu l a d hl s hs (fun hd tm ht => ?_) (fun e => by rw [hd] at e; cases e) s.length 0 (by omega) rfl)))
  ·refine SW.bF ?_ ?_
   ·repeat (first | exact .nil | refine .cons rfl (.v (VLe.refl _)) ?_ | refine .cons rfl (.l _ _ rfl) ?_ | refine .cons rfl (.v (VLe.unk _ _)) ?_)
   ·repeat (first | exact .nil | refine .cons rfl (.inl rfl) ?_)
  ·refine WR.weak (SW.bF ht .nil) ?_
   unfold aAh
   repeat (refine WR.seq ?_)
   refine WR.reg (WQ.aA [] 4 _ _ _ _ rfl ?_)
   rw [show decide ((s.length : Int) < 1) = false from decide_eq_false (by omega)]
   refine WQ.aA [] 3 _ _ _ _ rfl ?_
   rw [show decide ((s.length : Int) > 15) = false from decide_eq_false (by omega)]
   refine WQ.aA [] 1000 _ _ _ _ rfl (WQ.aB ?_)
   repeat (refine WR.seq ?_)
   refine WR.aG rfl (WR.skip ?_)
   unfold aIg
   repeat (refine WR.seq ?_)
   refine WR.reg (WQ.aA [] 1 _ _ _ _ rfl ?_)
   refine WQ.aE rfl rfl rfl rfl rfl (aQg hd h1 h2 _) .base rfl ?_
   refine WQ.aA [] 1000 _ _ _ _ rfl (WQ.aB ?_)
   repeat (first | refine WR.seq ?_ | refine WR.block ?_ | refine WR.scope ?_ | refine WR.skip ?_ | refine WR.exit ?_ | refine WR.aK rfl ?_ | refine WR.aG rfl ?_ | refine WR.reg (WQ.aA [] 1000 _ _ _ _ rfl ?_) | refine WQ.aB ?_ | refine WR.aW bE (DW.aA [] 1000 _ _ _ _ _ _ rfl ?_))
   refine WR.ret ⟨rfl, rfl, ⟨_, rfl, by repeat (first | exact VLe.refl _ | exact VLe.unk _ _ | refine VLe.tup ?_ | refine VLe.agg ?_ | exact VLL.nil | refine VLL.cons ?_ ?_)⟩, fun b _ => rfl⟩
end Go.VM
end
section
/- Expressions: types: tokens of types. -/
set_option maxRecDepth 100000
set_option linter.unusedVariables false
set_option linter.unusedSimpArgs false
namespace Go.VM
open Go.RowKit
inductive Tx where
 | mk (k : Nat) (a : Int) (p n : List Nat) (l : List Tx)
mutual
def aHg : Tx → List V
 | .mk k a p n l => [.int .i64 k, .int .i64 a, .str p, .str n, .lst (aAp l) .unk]
def aAp : List Tx → List (List V)
 | [] => []
 | x :: l => aHg x :: aAp l
end
mutual
theorem aDa {D : Nat → Prop} : ∀ x : Tx, Ins D (aHg x)
 | .mk k a p n l => ⟨trivial, trivial, trivial, trivial, ⟨kL l, trivial⟩, trivial⟩
theorem kL {D : Nat → Prop} : ∀ l : List Tx, Inss D (aAp l)
 | [] => trivial
 | x :: l => ⟨aDa x, kL l⟩
end
def zTx : List V := [.int .i64 0, .int .i64 0, .str [], .str [], .lst [] (.ex 0)]
def lsV (l : List Tz) : V := .lst (l.map dK) .unk
theorem rH {D : Nat → Prop} (l : List Tz) : (lsV l).In D := ⟨aAd _, trivial⟩
theorem dS (l : List Tz) (a : Nat) (hl : l.length < 4294967296) (h : H) : SCall Go.Proofs.Tryd.prog [] 77 [lsV l, .int .i64 a] none h (.ret (.agg (dK (aC l a)))) none h := by
 refine SCall.dY rfl ?_ (by exact ⟨rH l, trivial, trivial⟩) (by exact ⟨trivial, trivial, trivial, trivial, trivial⟩) h
 refine SCall.listed (fn := Go.Proofs.Tryd.f77) (by kernel_rfl) aXl (by kernel_rfl) (by kernel_rfl) (Nat.le_refl _) rfl (trivial) (by exact ⟨trivial, trivial, trivial, trivial, trivial⟩) ?_
 unfold aVz
 unfold lsV
 repeat (refine WR.seq ?_)
 refine WR.reg (WQ.aA [] 1000 _ _ _ _ rfl (WQ.aB ?_))
 repeat (refine WR.seq ?_)
 refine WR.reg (WQ.aA [] 3 _ _ _ _ rfl ?_)
 rw [show decide ((a : Int) ≥ 0) = true from decide_eq_true (by omega)]
 refine WQ.aA [] 4 _ _ _ _ rfl ?_
 rw [List.length_map]
 by_cases h : a < l.length
 ·rw [show decide ((a : Int) < (l.length : Int)) = true from decide_eq_true (by omega)]
  have hc : l[a]? = some l[a] := List.getElem?_eq_getElem h
  rw [iV hc]
  generalize l[a] = t at hc ⊢
  refine WQ.aA [] 1000 _ _ _ _ rfl (WQ.aB ?_)
  repeat (refine WR.seq ?_)
  refine WR.aK rfl ?_
  repeat (refine WR.seq ?_)
  refine WR.reg (WQ.aA [] 2 _ _ _ _ rfl ?_)
  refine WQ.bQ rfl rfl rfl (mH (cs := dK t) rfl rfl (by rw [List.getElem?_map, hc]; rfl) rfl) rfl ?_
  refine WQ.aA [] 1000 _ _ _ _ rfl (WQ.aB ?_)
  refine WR.ret ⟨rfl, rfl, ⟨_, rfl, by repeat (first | exact VLe.refl _ | exact VLe.unk _ _ | refine VLe.tup ?_ | refine VLe.agg ?_ | exact VLL.nil | refine VLL.cons ?_ ?_)⟩, fun b _ => rfl⟩
 ·rw [show decide ((a : Int) < (l.length : Int)) = false from decide_eq_false (by omega)]
  rw [oG (by omega)]
  refine WQ.aA [] 1000 _ _ _ _ rfl (WQ.aB ?_)
  repeat (refine WR.seq ?_)
  refine WR.aG rfl (WR.skip ?_)
  repeat (refine WR.seq ?_)
  refine WR.reg (WQ.aA [] 1000 _ _ _ _ rfl (WQ.aB ?_))
  repeat (refine WR.seq ?_)
  refine WR.reg (WQ.aA [] 1000 _ _ _ _ rfl (WQ.aB ?_))
  rw [List.length_map]
  repeat (refine WR.seq ?_)
  refine WR.reg (WQ.aA [] 2 _ _ _ _ rfl ?_)
  rcases Nat.eq_zero_or_pos l.length with h0 | h0
  ·have h0 : l = [] := List.eq_nil_of_length_eq_zero h0
   subst h0
   refine WQ.aA [] 1000 _ _ _ _ rfl (WQ.aB ?_)
   repeat (refine WR.seq ?_)
   refine WR.aG rfl (WR.skip ?_)
   unfold zA
   repeat (first | refine WR.seq ?_ | refine WR.block ?_ | refine WR.scope ?_ | refine WR.skip ?_ | refine WR.exit ?_ | refine WR.aK rfl ?_ | refine WR.aG rfl ?_ | refine WR.reg (WQ.aA [] 1000 _ _ _ _ rfl ?_) | refine WQ.aB ?_ | refine WR.aW bE (DW.aA [] 1000 _ _ _ _ _ _ rfl ?_))
   refine WR.ret ⟨rfl, rfl, ⟨_, rfl, by repeat (first | exact VLe.refl _ | exact VLe.unk _ _ | refine VLe.tup ?_ | refine VLe.agg ?_ | exact VLL.nil | refine VLL.cons ?_ ?_)⟩, fun b _ => rfl⟩
  ·rw [show decide ((l.length : Int) > 0) = true from decide_eq_true (by omega)]
   have hc : l[l.length - 1]? = some l[l.length - 1] := List.getElem?_eq_getElem (by omega)
   rw [uL hc]
   generalize l[l.length - 1] = t at hc ⊢
   refine WQ.aA [] 1000 _ _ _ _ rfl (WQ.aB ?_)
   repeat (refine WR.seq ?_)
   refine WR.aK rfl ?_
   repeat (refine WR.seq ?_)
   refine WR.reg (WQ.aA [] 3 _ _ _ _ rfl ?_)
   rw [nE (by omega) (by unfold big; omega)]
   refine WQ.bQ rfl rfl rfl (mH (cs := dK t) rfl rfl (by rw [List.getElem?_map, hc]; rfl) rfl) rfl (WQ.aA [] 1000 _ _ _ _ rfl (WQ.aB ?_))
   unfold zA
   repeat (first | refine WR.seq ?_ | refine WR.block ?_ | refine WR.scope ?_ | refine WR.skip ?_ | refine WR.exit ?_ | refine WR.aK rfl ?_ | refine WR.aG rfl ?_ | refine WR.reg (WQ.aA [] 1000 _ _ _ _ rfl ?_) | refine WQ.aB ?_ | refine WR.aW bE (DW.aA [] 1000 _ _ _ _ _ _ rfl ?_))
   refine WR.ret ⟨rfl, rfl, ⟨_, rfl, by repeat (first | exact VLe.refl _ | exact VLe.unk _ _ | refine VLe.tup ?_ | refine VLe.agg ?_ | exact VLL.nil | refine VLL.cons ?_ ?_)⟩, fun b _ => rfl⟩
def iK (t : Tz) (s : List Nat) : Bool := decide (t.k = 4) && decide (t.t = s)
theorem nQ (l : List Tz) (a : Nat) (s : List Nat) : isF l a 4 s = iK (aC l a) s := rfl
theorem fG (t : Tz) (s : List Nat) (h : H) : SCall Go.Proofs.Tryd.prog [] 78 [.agg (dK t), .str s] none h (.ret (.bool (iK t s))) none h := by
 refine SCall.dY rfl ?_ (by exact ⟨⟨trivial, trivial, trivial, trivial, trivial⟩, trivial, trivial⟩) (by exact trivial) h
 refine SCall.listed (fn := Go.Proofs.Tryd.f78) (by kernel_rfl) aZq (by kernel_rfl) (by kernel_rfl) (Nat.le_refl _) rfl (trivial) trivial ?_
 unfold aYu
 unfold iK
 repeat (refine WR.seq ?_)
 refine WR.reg (WQ.aA [] 1000 _ _ _ _ rfl (WQ.aB ?_))
 repeat (refine WR.seq ?_)
 refine WR.reg (WQ.aA [] 4 _ _ _ _ rfl ?_)
 refine WQ.guard 8 rfl (fun e => ?_) (fun e => ?_) <;> rw [e]
 ·refine WQ.aA [] 1000 _ _ _ _ rfl (WQ.aB ?_)
  refine WR.ret ⟨rfl, rfl, ⟨_, rfl, by repeat (first | exact VLe.refl _ | exact VLe.unk _ _ | refine VLe.tup ?_ | refine VLe.agg ?_ | exact VLL.nil | refine VLL.cons ?_ ?_)⟩, fun b _ => rfl⟩
 ·refine WQ.aA [] 1000 _ _ _ _ rfl (WQ.aB ?_)
  refine WR.ret ⟨rfl, rfl, ⟨_, rfl, by repeat (first | exact VLe.refl _ | exact VLe.unk _ _ | refine VLe.tup ?_ | refine VLe.agg ?_ | exact VLL.nil | refine VLL.cons ?_ ?_)⟩, fun b _ => rfl⟩
def tyV (r : R Tx) : V := match r with
 | .ok x n => .tup [.agg (aHg x), .int .i64 n, .agg [.int .i64 0, .int .i64 0]]
 | .er _ _ p c => .tup [.agg zTx, .int .i64 0, .agg [.int .i64 p, .int .i64 c]]
 | .out => .bool false
theorem fE (t : Tz) (c : Int) (h : H) : SCall Go.Proofs.Tryd.prog [] 76 [.agg (dK t), .int .i64 c] none h (.ret (tyV (.er 0 0 t.a c))) none h := by
 refine SCall.dY rfl ?_ (by exact ⟨⟨trivial, trivial, trivial, trivial, trivial⟩, trivial, trivial⟩) (by exact ⟨⟨trivial, trivial, trivial, trivial, ⟨trivial, trivial⟩, trivial⟩, trivial, ⟨trivial, trivial, trivial⟩, trivial⟩) h
 refine SCall.listed (fn := Go.Proofs.Tryd.f76) (by kernel_rfl) aXn (by kernel_rfl) (by kernel_rfl) (Nat.le_refl _) rfl (trivial) (by exact ⟨⟨trivial, trivial, trivial, trivial, ⟨trivial, trivial⟩, trivial⟩, trivial, ⟨trivial, trivial, trivial⟩, trivial⟩) ?_
 unfold aXc
 repeat (first | refine WR.seq ?_ | refine WR.block ?_ | refine WR.scope ?_ | refine WR.skip ?_ | refine WR.exit ?_ | refine WR.aK rfl ?_ | refine WR.aG rfl ?_ | refine WR.reg (WQ.aA [] 1000 _ _ _ _ rfl ?_) | refine WQ.aB ?_ | refine WR.aW bE (DW.aA [] 1000 _ _ _ _ _ _ rfl ?_))
 refine DW.stS (by repeat (first | exact .nil | refine PendR.aI rfl ?_ | refine PendR.aH rfl ?_ | refine PendR.aD rfl ?_)) rfl rfl rfl rfl (DW.aA [] 1000 _ _ _ _ _ _ rfl ?_)
 refine DW.stS (by repeat (first | exact .nil | refine PendR.aI rfl ?_ | refine PendR.aH rfl ?_ | refine PendR.aD rfl ?_)) rfl rfl rfl rfl (DW.aA [] 1000 _ _ _ _ _ _ rfl ?_)
 refine DW.dN (by repeat (first | exact .nil | refine PendR.aI rfl ?_ | refine PendR.aH rfl ?_ | refine PendR.aD rfl ?_)) ?_
 exact WR.ret ⟨rfl, rfl, ⟨_, rfl, by repeat (first | exact VLe.refl _ | exact VLe.unk _ _ | refine VLe.tup ?_ | refine VLe.agg ?_ | exact VLL.nil | refine VLL.cons ?_ ?_)⟩, fun b hb => rfl⟩
end Go.VM
end
section
/- Expressions: types: the brackets ahead of a type. -/
set_option maxRecDepth 100000
set_option linter.unusedVariables false
set_option linter.unusedSimpArgs false
namespace Go.VM
open Go.RowKit
inductive OpenR where
 | brk (a : Nat) (ls : List Int)
 | er (p c : Int)
def cO (l : List Tz) : Nat → Nat → List Int → OpenR
 | 0, a, ls => match iK (aC l a) [91] with
  | false => .brk a ls
  | true => .er (aC l a).a 6
 | m + 1, a, ls => match iK (aC l a) [91] with
  | false => .brk a ls
  | true => match iK (aC l (a + 1)) [93] with
   | false => .er (aC l (a + 1)).a 5
   | true => cO l m (a + 2) (ls ++ [(aC l a).a])
def qF (p : Int) : List V := [.int .i64 p]
def lvI : List Int → V
 | [] => .lst [] (.ex 0)
 | p :: l => .lst ((p :: l).map qF) (.tk 1000)
def aLa : List Int → OL
 | [] => []
 | p :: l => [(1000, .tok (p :: l).length)]
def nxI : List Int → Nat
 | [] => 1000
 | _ :: _ => 1001
theorem vA (ls : List Int) (b : Nat) (h : b < 1000) : og [] b = og (aLa ls) b := by
 cases ls with
 | nil => rfl
 | cons p l => simp only [aLa, aT]; rw [if_neg (by omega)]
def aRl (l : List Tz) (a : Nat) (ls : List Int) : TM := [(0, .v (lsV l)), (1, .v (.int .i64 a)), (4, .l 4 0), (5, .v (.int .i64 0)), (6, .l 6 0), (7, .v (.fn (.func 76) [] [])), (8, .v (lvI ls))]
def aJo : LM := [(4, zTx), (6, [.int .i64 0, .int .i64 0])]
theorem aJe {l : List Tz} {a : Nat} {s : List Nat} (h : iK (aC l a) s = true) : l[a]? = some (aC l a) := uZ (k := 4) (s := s) h (by decide)
theorem lQ {l : List Tz} {a : Nat} {s : List Nat} (h : iK (aC l a) s = true) : a < l.length := (List.getElem?_eq_some_iff.1 (aJe h)).1
theorem aLm {QN : S → Prop} {QX : X → S → Prop} (l : List Tz) (hl : l.length < 4294967296) : ∀ (m a : Nat) (ls : List Int), ls.length + m = 30 → a ≤ l.length →
  (∀ a' ls', cO l m a ls = .brk a' ls' → ls'.length ≤ 30 → a' ≤ l.length → ∀ tm, TellT tm aJo (aRl l a' ls') → ∀ lc, TellL lc aJo → QX (.exit 0) (SL.toS ⟨tm, [], none, nxI ls', aLa ls', lc⟩)) →
  (∀ p c, cO l m a ls = .er p c → ∀ s, lX Go.Proofs.Tryd.prog Go.Proofs.Tryd.f71 (tyV (.er 0 0 p c)) 1000 [] s → QX .ret s) →
  WLr Go.Proofs.Tryd.prog [] ⟨Go.Proofs.Tryd.f71.ntmps, none, 71⟩ rA (SL.toS ⟨aRl l a ls, [], none, nxI ls, aLa ls, aJo⟩) QN QX := by
 intro m
 induction m with
 | zero =>
  intro a ls hm ha hb he
  obtain ⟨q, r, rfl⟩ : ∃ q r, ls = q :: r := by cases ls with | nil => simp at hm | cons q r => exact ⟨q, r, rfl⟩
  unfold rA
  refine WLr.of (WR.block ?_)
  repeat (refine WR.seq ?_)
  refine WR.reg (WQ.aA [] 2 _ _ _ _ rfl ?_)
  refine WQ.aE rfl rfl rfl rfl rfl (dS l a hl _) .base rfl ?_
  refine WQ.aA [] 1000 _ _ _ _ rfl (WQ.aB ?_)
  repeat (refine WR.seq ?_)
  refine WR.block ?_
  repeat (refine WR.seq ?_)
  refine WR.reg (WQ.aA [] 1 _ _ _ _ rfl ?_)
  refine WQ.aE rfl rfl rfl rfl rfl (fG (aC l a) [91] _) .base rfl ?_
  refine WQ.aA [] 1000 _ _ _ _ rfl (WQ.aB ?_)
  cases hs : iK (aC l a) [91] with
  | false =>
   refine WR.aK rfl (WR.exit (hb a _ (by simp only [cO, hs]) (by omega) ha _ ?_ _ ?_))
   ·repeat (first | exact .nil | refine .cons rfl (.v (VLe.refl _)) ?_ | refine .cons rfl (.l _ _ rfl) ?_)
   ·repeat (first | exact .nil | refine .cons rfl (.inl rfl) ?_)
  | true =>
   refine WR.aG rfl ?_
   repeat (refine WR.seq ?_)
   refine WR.reg (WQ.aA [] 3 _ _ _ _ rfl ?_)
   rw [List.length_map, show (q :: r).length = 30 from hm, show decide (((30 : Nat) : Int) = 30) = true from rfl]
   refine WQ.aA [] 1000 _ _ _ _ rfl (WQ.aB ?_)
   repeat (refine WR.seq ?_)
   refine WR.aK rfl ?_
   repeat (refine WR.seq ?_)
   refine WR.reg (WQ.aA [] 2 _ _ _ _ rfl ?_)
   refine WQ.aE rfl rfl rfl rfl rfl (fE (aC l a) 6 _) .base rfl ?_
   refine WQ.aA [] 1000 _ _ _ _ rfl (WQ.aB ?_)
   exact WR.ret (he _ _ (by simp only [cO, hs]) _ ⟨rfl, rfl, ⟨_, rfl, VLe.refl _⟩, fun b hb => vA (q :: r) b hb⟩)
 | succ m ih =>
  intro a ls hm ha hb he
  cases ls with
  | nil =>
   unfold rA
   refine WLr.of (WR.block ?_)
   repeat (refine WR.seq ?_)
   refine WR.reg (WQ.aA [] 2 _ _ _ _ rfl ?_)
   refine WQ.aE rfl rfl rfl rfl rfl (dS l a hl _) .base rfl ?_
   refine WQ.aA [] 1000 _ _ _ _ rfl (WQ.aB ?_)
   repeat (refine WR.seq ?_)
   refine WR.block ?_
   repeat (refine WR.seq ?_)
   refine WR.reg (WQ.aA [] 1 _ _ _ _ rfl ?_)
   refine WQ.aE rfl rfl rfl rfl rfl (fG (aC l a) [91] _) .base rfl ?_
   refine WQ.aA [] 1000 _ _ _ _ rfl (WQ.aB ?_)
   cases hs : iK (aC l a) [91] with
   | false =>
    refine WR.aK rfl (WR.exit (hb a _ (by simp only [cO, hs]) (by omega) ha _ ?_ _ ?_))
    ·repeat (first | exact .nil | refine .cons rfl (.v (VLe.refl _)) ?_ | refine .cons rfl (.l _ _ rfl) ?_)
    ·repeat (first | exact .nil | refine .cons rfl (.inl rfl) ?_)
   | true =>
    refine WR.aG rfl ?_
    repeat (refine WR.seq ?_)
    refine WR.reg (WQ.aA [] 1000 _ _ _ _ rfl (WQ.aB ?_))
    refine WR.aG rfl ?_
    have ha1 := lQ hs
    repeat (refine WR.seq ?_)
    refine WR.reg (WQ.aA [] 3 _ _ _ _ rfl ?_)
    rw [bS (by unfold big; omega)]
    refine WQ.aA [] 1 _ _ _ _ rfl ?_
    refine WQ.aE rfl rfl rfl rfl rfl (dS l (a + 1) hl _) .base rfl ?_
    refine WQ.aE rfl rfl rfl rfl rfl (fG (aC l (a + 1)) [93] _) .base rfl ?_
    refine WQ.aA [] 1000 _ _ _ _ rfl (WQ.aB ?_)
    cases hs2 : iK (aC l (a + 1)) [93] with
    | false =>
     refine WR.aK rfl ?_
     repeat (refine WR.seq ?_)
     refine WR.reg (WQ.aA [] 4 _ _ _ _ rfl ?_)
     rw [bS (by unfold big; omega)]
     refine WQ.aA [] 1 _ _ _ _ rfl ?_
     refine WQ.aE rfl rfl rfl rfl rfl (dS l (a + 1) hl _) .base rfl ?_
     refine WQ.aE rfl rfl rfl rfl rfl (fE (aC l (a + 1)) 5 _) .base rfl ?_
     refine WQ.aA [] 1000 _ _ _ _ rfl (WQ.aB ?_)
     exact WR.ret (he _ _ (by simp only [cO, hs, hs2]) _ ⟨rfl, rfl, ⟨_, rfl, VLe.refl _⟩, fun b hb => vA [] b hb⟩)
    | true =>
     refine WR.aG rfl (WR.skip ?_)
     unfold yN
     repeat (refine WR.seq ?_)
     refine WR.reg (WQ.aA [] 4 _ _ _ _ rfl ?_)
     refine WQ.iH rfl (yM (n2 := 1) (es2 := [qF (aC l a).a]) rfl rfl (Nat.zero_lt_one) (by simp) (by simp) (by show 8 * 1 ≤ lim; decide) rfl rfl rfl rfl) rfl ?_
     have ha2 := lQ hs2
     refine WQ.aA [] 1000 _ _ _ _ rfl (WQ.aB ?_)
     repeat (refine WR.seq ?_)
     refine WR.reg (WQ.aA [] 2 _ _ _ _ rfl ?_)
     rw [show IntKind.i64.wrap ((a : Int) + 2) = ((a + 2 : Nat) : Int) from by rw [wrap64 (by omega) (by omega)]; rfl]
     refine WQ.aA [] 1000 _ _ _ _ rfl (WQ.aB ?_)
     simp only [cO, hs, hs2] at hb he
     refine WIr.again (WLr.weak ?_ (ih (a + 2) [(aC l a).a] (by simp at hm ⊢; omega) (by omega) hb he))
     refine SW.bF ?_ ?_
     ·repeat (first | exact .nil | refine .cons rfl (.v (VLe.refl _)) ?_ | refine .cons rfl (.l _ _ rfl) ?_ | refine .cons rfl (.v (VLe.unk _ _)) ?_)
     ·repeat (first | exact .nil | refine .cons rfl (.inl rfl) ?_)
  | cons q r =>
   unfold rA
   refine WLr.of (WR.block ?_)
   repeat (refine WR.seq ?_)
   refine WR.reg (WQ.aA [] 2 _ _ _ _ rfl ?_)
   refine WQ.aE rfl rfl rfl rfl rfl (dS l a hl _) .base rfl ?_
   refine WQ.aA [] 1000 _ _ _ _ rfl (WQ.aB ?_)
   repeat (refine WR.seq ?_)
   refine WR.block ?_
   repeat (refine WR.seq ?_)
   refine WR.reg (WQ.aA [] 1 _ _ _ _ rfl ?_)
   refine WQ.aE rfl rfl rfl rfl rfl (fG (aC l a) [91] _) .base rfl ?_
   refine WQ.aA [] 1000 _ _ _ _ rfl (WQ.aB ?_)
   cases hs : iK (aC l a) [91] with
   | false =>
    refine WR.aK rfl (WR.exit (hb a _ (by simp only [cO, hs]) (by omega) ha _ ?_ _ ?_))
    ·repeat (first | exact .nil | refine .cons rfl (.v (VLe.refl _)) ?_ | refine .cons rfl (.l _ _ rfl) ?_)
    ·repeat (first | exact .nil | refine .cons rfl (.inl rfl) ?_)
   | true =>
    refine WR.aG rfl ?_
    repeat (refine WR.seq ?_)
    refine WR.reg (WQ.aA [] 3 _ _ _ _ rfl ?_)
    rw [List.length_map, show decide (((q :: r).length : Int) = 30) = false from decide_eq_false (by omega)]
    refine WQ.aA [] 1000 _ _ _ _ rfl (WQ.aB ?_)
    refine WR.aG rfl ?_
    have ha1 := lQ hs
    repeat (refine WR.seq ?_)
    refine WR.reg (WQ.aA [] 3 _ _ _ _ rfl ?_)
    rw [bS (by unfold big; omega)]
    refine WQ.aA [] 1 _ _ _ _ rfl ?_
    refine WQ.aE rfl rfl rfl rfl rfl (dS l (a + 1) hl _) .base rfl ?_
    refine WQ.aE rfl rfl rfl rfl rfl (fG (aC l (a + 1)) [93] _) .base rfl ?_
    refine WQ.aA [] 1000 _ _ _ _ rfl (WQ.aB ?_)
    cases hs2 : iK (aC l (a + 1)) [93] with
    | false =>
     refine WR.aK rfl ?_
     repeat (refine WR.seq ?_)
     refine WR.reg (WQ.aA [] 4 _ _ _ _ rfl ?_)
     rw [bS (by unfold big; omega)]
     refine WQ.aA [] 1 _ _ _ _ rfl ?_
     refine WQ.aE rfl rfl rfl rfl rfl (dS l (a + 1) hl _) .base rfl ?_
     refine WQ.aE rfl rfl rfl rfl rfl (fE (aC l (a + 1)) 5 _) .base rfl ?_
     refine WQ.aA [] 1000 _ _ _ _ rfl (WQ.aB ?_)
     exact WR.ret (he _ _ (by simp only [cO, hs, hs2]) _ ⟨rfl, rfl, ⟨_, rfl, VLe.refl _⟩, fun b hb => vA (q :: r) b hb⟩)
    | true =>
     refine WR.aG rfl (WR.skip ?_)
     unfold yN
     repeat (refine WR.seq ?_)
     refine WR.reg (WQ.aA [] 4 _ _ _ _ rfl ?_)
     refine WQ.iH rfl (aAr (n := (q :: r).length) (n2 := (q :: r ++ [(aC l a).a]).length) (es2 := (q :: r ++ [(aC l a).a]).map qF) rfl rfl rfl (List.length_map ..).symm ?_ ?_ ?_ rfl ?_ ?_ rfl) rfl ?_
     ·simp [qF]
     ·simp [qF]
     ·simp only [List.length_map, List.length_cons, List.length_nil] at hm ⊢; unfold lim; omega
     ·simp [qF, V.bM]
     ·simp
     have ha2 := lQ hs2
     refine WQ.aA [] 1000 _ _ _ _ rfl (WQ.aB ?_)
     repeat (refine WR.seq ?_)
     refine WR.reg (WQ.aA [] 2 _ _ _ _ rfl ?_)
     rw [show IntKind.i64.wrap ((a : Int) + 2) = ((a + 2 : Nat) : Int) from by rw [wrap64 (by omega) (by omega)]; rfl]
     refine WQ.aA [] 1000 _ _ _ _ rfl (WQ.aB ?_)
     simp only [cO, hs, hs2] at hb he
     refine WIr.again (WLr.weak ?_ (ih (a + 2) (q :: r ++ [(aC l a).a]) (by simp at hm ⊢; omega) (by omega) hb he))
     refine SW.bF ?_ ?_
     ·repeat (first | exact .nil | refine .cons rfl (.v (VLe.refl _)) ?_ | refine .cons rfl (.l _ _ rfl) ?_ | refine .cons rfl (.v (VLe.unk _ _)) ?_)
     ·repeat (first | exact .nil | refine .cons rfl (.inl rfl) ?_)
end Go.VM
end
section
/- Expressions: types: the type itself. -/
set_option maxRecDepth 100000
set_option linter.unusedVariables false
set_option linter.unusedSimpArgs false
namespace Go.VM
open Go.RowKit
def qC (s : List Nat) : Option Nat := match decide (s = [105, 110, 116]) with
 | true => some 1
 | false => match decide (s = [98, 111, 111, 108]) with
  | true => some 2
  | false => match decide (s = [116, 101, 120, 116]) with
   | true => some 3
   | false => none
def gC (l : List Tz) (a : Nat) : R Tx :=
 match decide ((aC l a).k = 5) && (qC (aC l a).t).isSome with
 | true => .ok (.mk ((qC (aC l a).t).getD 0) (aC l a).a [] [] []) a
 | false => match decide ((aC l a).k = 1) with
  | true => match iK (aC l (a + 1)) [46] with
   | true => match decide ((aC l (a + 2)).k = 1) with
    | true => .ok (.mk 4 (aC l a).a (aC l a).t (aC l (a + 2)).t []) (a + 2)
    | false => .er 0 0 (aC l (a + 2)).a 5
   | false => .ok (.mk 4 (aC l a).a [] (aC l a).t []) a
  | false => .er 0 0 (aC l a).a 5
def gB : List Int → Tx → Tx
 | [], x => x
 | p :: ls, x => .mk 5 p [] [] [gB ls x]
def tyF (l : List Tz) (a : Nat) : R Tx := match cO l 30 a [] with
 | .er p c => .er 0 0 p c
 | .brk a' ls => match gC l a' with
  | .ok x a2 => .ok (gB ls x) (a2 + 1)
  | .er _ _ p c => .er 0 0 p c
  | .out => .out
def xM : List (V × V) := [(.str [105, 110, 116], .int .i64 1), (.str [98, 111, 111, 108], .int .i64 2), (.str [116, 101, 120, 116], .int .i64 3)]
theorem aYt {gl : List Nat} {nt nx M : Nat} {tm : TM} {ol : OL} {lc : LM} {x k : RX} {s : List Nat} (hx : rv gl tm x = some (.map M)) (hk : rv gl tm k = some (.str s)) (hm : og ol M = some (.map xM)) :
  bR Go.Proofs.Tryd.prog gl nt tm ⟨nx, og ol, lc⟩ (some (.lk x k true (.int .i64 0) .str)) (.v (.tup [.int .i64 ((qC s).getD 0), .bool (qC s).isSome])) := by
 refine bD ?_
 simp only [dO, rl, hx, hk, hm]
 unfold qC
 show (match (match gW (.str s) (.str [105, 110, 116]) with | some true => some (some (V.int .i64 1)) | some false => (match gW (.str s) (.str [98, 111, 111, 108]) with | some true => some (some (V.int .i64 2)) | some false => (match gW (.str s) (.str [116, 101, 120, 116]) with | some true => some (some (V.int .i64 3)) | some false => some none | none => none) | none => none) | none => none) with | some (some v) => some (TV.v (mW true v true)) | some none => some (TV.v (mW true (.int .i64 0) false)) | none => none) = _
 rw [show gW (.str s) (.str [105, 110, 116]) = some (decide (s = [105, 110, 116])) from rfl, show gW (.str s) (.str [98, 111, 111, 108]) = some (decide (s = [98, 111, 111, 108])) from rfl, show gW (.str s) (.str [116, 101, 120, 116]) = some (decide (s = [116, 101, 120, 116])) from rfl]
 cases decide (s = [105, 110, 116])
 ·cases decide (s = [98, 111, 111, 108])
  ·cases decide (s = [116, 101, 120, 116]) <;> rfl
  ·rfl
 ·rfl
def aVp (l : List Tz) (a : Nat) (ls : List Int) (i : Int) : TM := [(0, .v (lsV l)), (1, .v (.int .i64 a)), (4, .l 4 0), (5, .v (.int .i64 0)), (6, .l 6 0), (8, .v (lvI ls)), (11, .l 11 0), (15, .v (.int .i64 i))]
def aLf (x : Tx) : LM := [(4, zTx), (6, [.int .i64 0, .int .i64 0]), (11, aHg x)]
theorem aXy {k : Nat} (h : k < 100) : IntKind.i64.wrap ((k : Int) - 1) = (k : Int) - 1 := wrap64 (by omega) (by omega)
theorem aPw {ls : List Int} {i : Nat} {p : Int} (h : ls[i]? = some p) : ∃ c, lvI ls = .lst (ls.map qF) c := by
 cases ls with
 | nil => cases h
 | cons q r => exact ⟨_, rfl⟩
theorem aIo {QN : S → Prop} {QX : X → S → Prop} (l : List Tz) (a : Nat) (ls : List Int) (nx : Nat) (ol : OL) (hls : ls.length ≤ 30) (y : Tx)
  (h0 : ∀ tm, TellT tm (aLf y) [(1, .v (.int .i64 a)), (4, .l 4 0), (6, .l 6 0), (11, .l 11 0)] → ∀ lc, TellL lc (aLf y) → QX (.exit 4) (SL.toS ⟨tm, [], none, nx, ol, lc⟩)) : ∀ (k : Nat) (x : Tx), k ≤ ls.length → gB (ls.take k) x = y →
  WLr Go.Proofs.Tryd.prog [] ⟨Go.Proofs.Tryd.f71.ntmps, none, 71⟩ tE (SL.toS ⟨aVp l a ls ((k : Int) - 1), [], none, nx, ol, aLf x⟩) QN QX := by
 intro k
 induction k with
 | zero =>
  intro x _ hx
  have hx : x = y := hx
  subst hx
  unfold tE
  refine WLr.of ?_
  repeat (refine WR.seq ?_)
  refine WR.reg (WQ.aA [] 2 _ _ _ _ rfl ?_)
  rw [show decide ((((0 : Nat) : Int) - 1) ≥ 0) = false from rfl]
  refine WQ.aA [] 1000 _ _ _ _ rfl (WQ.aB ?_)
  repeat (refine WR.seq ?_)
  refine WR.aG rfl (WR.exit (h0 _ ?_ _ ?_))
  ·repeat (first | exact .nil | refine .cons rfl (.v (VLe.refl _)) ?_ | refine .cons rfl (.l _ _ rfl) ?_)
  ·repeat (first | exact .nil | refine .cons rfl (.inl rfl) ?_)
 | succ k ih =>
  intro x hk hx
  obtain ⟨p, hp⟩ : ∃ p, ls[k]? = some p := ⟨ls[k], List.getElem?_eq_getElem (by omega)⟩
  have hx : gB (ls.take k) (.mk 5 p [] [] [x]) = y := by
   rw [List.take_add_one, hp] at hx
   rw [← hx]
   have go : ∀ m : List Int, gB (m ++ [p]) x = gB m (.mk 5 p [] [] [x]) := by
    intro m
    induction m with
    | nil => rfl
    | cons q m ihm => simp only [List.cons_append, gB, ihm]
   exact (go _).symm
  obtain ⟨c, hc⟩ := aPw hp
  obtain ⟨xk, xa, xp, xn, xl⟩ := x
  unfold tE
  refine WLr.of ?_
  rw [show ((k + 1 : Nat) : Int) - 1 = (k : Int) by omega]
  repeat (refine WR.seq ?_)
  refine WR.reg (WQ.aA [] 2 _ _ _ _ rfl ?_)
  rw [show decide ((k : Int) ≥ 0) = true from decide_eq_true (by omega)]
  refine WQ.aA [] 1000 _ _ _ _ rfl (WQ.aB ?_)
  repeat (refine WR.seq ?_)
  refine WR.aK rfl (WR.skip ?_)
  repeat (refine WR.seq ?_)
  refine WR.block (WR.aW bE (DW.aA [] 2 _ _ _ _ _ _ rfl ?_))
  refine DW.kX rfl (fun h => mH (cs := qF p) (congrArg some hc) rfl (by rw [List.getElem?_map, hp]; rfl) rfl) rfl (DW.aA [] 1000 _ _ _ _ _ _ rfl ?_)
  refine DW.stS (by repeat (first | exact .nil | refine PendR.aI rfl ?_ | refine PendR.aH rfl ?_ | refine PendR.aD rfl ?_)) rfl rfl rfl rfl (DW.aA [] 1000 _ _ _ _ _ _ rfl (DW.dN (by repeat (first | exact .nil | refine PendR.aI rfl ?_ | refine PendR.aH rfl ?_ | refine PendR.aD rfl ?_)) ?_))
  unfold aHj
  repeat (refine WR.seq ?_)
  refine WR.reg (WQ.aA [] 2 _ _ _ _ rfl ?_)
  rw [aXy (by omega)]
  refine WQ.aA [] 1000 _ _ _ _ rfl (WQ.aB ?_)
  refine WIr.again (WLr.weak ?_ (ih (.mk 5 p [] [] [.mk xk xa xp xn xl]) (by omega) hx))
  refine SW.bF ?_ ?_
  ·repeat (first | exact .nil | refine .cons rfl (.v (VLe.refl _)) ?_ | refine .cons rfl (.l _ _ rfl) ?_)
  ·refine .cons rfl (.inl rfl) (.cons rfl (.inl rfl) (.cons rfl (.inr ?_) .nil))
   repeat (first | exact .nil | refine .cons (VLe.refl _) rfl ?_ | refine .cons (VLe.unk _ _) rfl ?_)
theorem fP {QN : S → Prop} {QX : X → S → Prop} (l : List Tz) (a : Nat) (ha : a < 4294967300) (ls : List Int) (nx : Nat) (ol : OL) (hls : ls.length ≤ 30) (x : Tx) (hol : ∀ b, b < 1000 → og [] b = og ol b) {tm : TM} {lc : LM}
  (ht : TellT tm (aLf x) [(0, .v (lsV l)), (1, .v (.int .i64 a)), (4, .l 4 0), (5, .v (.int .i64 0)), (6, .l 6 0), (8, .v (lvI ls)), (11, .l 11 0)]) (hlc : TellL lc (aLf x))
  (hq : ∀ s, lX Go.Proofs.Tryd.prog Go.Proofs.Tryd.f71 (tyV (.ok (gB ls x) (a + 1))) 1000 [] s → QX .ret s) :
  WR Go.Proofs.Tryd.prog [] ⟨Go.Proofs.Tryd.f71.ntmps, none, 71⟩ aAg (SL.toS ⟨tm, [], none, nx, ol, lc⟩) QN QX := by
 refine WR.weak (SW.bF ht hlc) ?_
 unfold aAg
 have hlen : ∃ c, lvI ls = .lst (ls.map qF) c := by
  cases ls with
  | nil => exact ⟨_, rfl⟩
  | cons q r => exact ⟨_, rfl⟩
 obtain ⟨c, hc⟩ := hlen
 rw [hc]
 repeat (refine WR.seq ?_)
 refine WR.reg (WQ.aA [] 2 _ _ _ _ rfl ?_)
 rw [List.length_map]
 refine WQ.aA [] 1 _ _ _ _ rfl ?_
 rw [aXy (by omega)]
 refine WQ.aA [] 1000 _ _ _ _ rfl (WQ.aB ?_)
 repeat (refine WR.seq ?_)
 refine WR.block (WR.loop (WLr.weak (s := SL.toS ⟨aVp l a ls ((ls.length : Int) - 1), [], none, nx, ol, aLf x⟩) ?_ (aIo l a ls nx ol hls (gB ls x) (fun tm ht lc hlc => ?_) ls.length x (Nat.le_refl _) (by rw [List.take_length]))))
 ·refine SW.bF ?_ ?_
  ·unfold aVp
   rw [hc]
   repeat (first | exact .nil | refine .cons rfl (.v (VLe.refl _)) ?_ | refine .cons rfl (.l _ _ rfl) ?_)
  ·repeat (first | exact .nil | refine .cons rfl (.inl rfl) ?_)
 ·generalize gB ls x = y at ht hlc hq
  obtain ⟨xk, xa, xp, xn, xl⟩ := y
  refine WR.weak (SW.bF ht hlc) ?_
  unfold aHh
  repeat (refine WR.seq ?_)
  refine WR.reg (WQ.aA [] 3 _ _ _ _ rfl ?_)
  rw [bS (by unfold big; omega)]
  refine WQ.aA [] 1000 _ _ _ _ rfl (WQ.aB ?_)
  refine WR.ret (hq _ ⟨rfl, rfl, ⟨_, rfl, by repeat (first | exact VLe.refl _ | exact VLe.unk _ _ | refine VLe.tup ?_ | refine VLe.agg ?_ | exact VLL.nil | refine VLL.cons ?_ ?_)⟩, hol⟩)
end Go.VM
end
