/- laid for this seat: VxA VxB VxC VxD VxE VxF VxG -/
import Derived.Test.YtipiffhjilidlaaDoorVmS
import Derived.Test.YtipiffhjilidlaaDoorVmR
import Derived.Test.YtipiffhjilidlaaDoorVg1
section
/- Expressions: tokens, the reader in memory, the token at hand. -/
set_option maxRecDepth 100000
set_option linter.unusedVariables false
set_option linter.unusedSimpArgs false
namespace Go.VM
open Go.RowKit
structure Tz where
 k : Int
 a : Int
 e : Int
 t : List Nat
def encTz (t : Tz) : List V := [.int .i64 t.k, .int .i64 t.a, .int .i64 t.e, .str t.t]
def lastE (l : List Tz) : Int := match l.getLast? with | some t => t.e | none => 0
def nowF (l : List Tz) (a : Nat) : Tz := match l[a]? with | some t => t | none => ⟨0, lastE l, lastE l, []⟩
def isF (l : List Tz) (a : Nat) (k : Int) (s : List Nat) : Bool := decide ((nowF l a).k = k) && decide ((nowF l a).t = s)
theorem tzs_in {D : Nat → Prop} : ∀ l : List Tz, Inss D (l.map encTz)
 | [] => trivial
 | _ :: l => ⟨⟨trivial, trivial, trivial, trivial, trivial⟩, tzs_in l⟩
theorem tzs_ren (ρ : Nat → Nat) (l : List Tz) : renss ρ (l.map encTz) = l.map encTz := renss_map fun _ _ => rfl
def levM : List (V × V) := [(.str [38, 38], .int .i64 1), (.str [61, 61], .int .i64 2), (.str [60], .int .i64 2), (.str [43], .int .i64 3), (.str [45], .int .i64 3), (.str [42], .int .i64 4)]
def rdC (M : Nat) (l : List Tz) (a d : Nat) : List V := [.lst (l.map encTz) .unk, .int .i64 a, .int .i64 d, .map M]
def rdO (M : Nat) (l : List Tz) (a d : Nat) : Obj := .cells false (rdC M l a d)
def mapO : Obj := .map levM
def rdL (l : List Tz) (a d : Nat) : OL := [(1000, rdO 1001 l a d), (1001, mapO)]
theorem rdO_ren (ρ : Nat → Nat) (l : List Tz) (a d : Nat) : Obj.ren ρ (rdO 1001 l a d) = rdO (ρ 1001) l a d := by
 simp only [rdO, rdC, Obj.ren, rens, V.ren, tzs_ren, LC.ren]
theorem rdO_in {D : Nat → Prop} {M : Nat} (h : D M) (l : List Tz) (a d : Nat) : Obj.In D (rdO M l a d) := ⟨⟨tzs_in _, trivial⟩, trivial, trivial, h, trivial⟩
theorem mapO_in {D : Nat → Prop} : Obj.In D mapO := ⟨⟨trivial, trivial⟩, ⟨trivial, trivial⟩, ⟨trivial, trivial⟩, ⟨trivial, trivial⟩, ⟨trivial, trivial⟩, ⟨trivial, trivial⟩, trivial⟩
theorem rdL_in {D : Nat → Prop} (h : D 1001) (l : List Tz) (a d : Nat) : olIn D (rdL l a d) := ⟨rdO_in h l a d, mapO_in, trivial⟩
theorem put_same {h : H} {b : Nat} {o : Obj} (hb : h.ob b = some o) : h.put b o = h := by
 cases h with
 | mk nx ob lc =>
  simp only [H.put]
  congr 1
  funext k
  split
  ·rename_i e; rw [e]; exact hb.symm
  ·rfl
theorem at_any {f : FuncId} {xs : List V} {l : List Tz} {a d a' d' : Nat} {r : AEnd} (core : SCall Go.Proofs.Tryd.prog [] f (.ptr 1000 0 :: xs) none ⟨1002, og (rdL l a d), []⟩ r none ⟨1002, og (rdL l a' d'), []⟩)
  (has : Ins (fun _ => False) xs) (hr : r.In (fun _ => False)) {h : H} {R M : Nat} (hRM : R ≠ M) (hR : glim ≤ R) (hM : glim ≤ M) (h1 : h.ob R = some (rdO M l a d)) (h2 : h.ob M = some mapO) :
  SCall Go.Proofs.Tryd.prog [] f (.ptr R 0 :: xs) none h r none (h.put R (rdO M l a' d')) := by
 refine SCall.frameLR (n := 0) [R, M] rfl core (by simp [hRM]) (by simp [hR, hM]) (fun i => ?_) rfl (fun i c o hi ho => ?_) (rdL_in (by show 1001 < 1002; decide) _ _ _) ⟨(by show 1000 < 1002; decide), Ins.mono (fun _ q => q.elim) has⟩ hr (rdL_in (by show 1001 < 1002; decide) _ _ _) ?_ rfl rfl (fun i hi => ?_) (fun c hc => ?_)
 ·simp only [rdL, og_cons]
  show _ ↔ 1000 ≤ i ∧ i < 1002
  split
  ·simp; omega
  ·split
   ·simp; omega
   ·simp [og]; omega
 ·match i, hi with
  | 0, hi =>
   cases hi; cases ho
   rw [rdO_ren]; exact h1
  | 1, hi =>
   cases hi; cases ho
   exact h2
 ·show _ :: rens _ xs = _
  rw [rens_id (D := fun _ => False) (fun _ q => q.elim) has]; rfl
 ·have hi : i < 2 := hi
  match i, hi with
  | 0, _ =>
   show (h.put R _).ob R = _
   simp only [H.put, if_true]
   show some _ = some (Obj.ren _ (rdO 1001 l a' d'))
   rw [rdO_ren]; rfl
  | 1, _ =>
   show (h.put R _).ob M = _
   simp only [H.put, if_neg hRM.symm]
   exact h2
 ·have h0 : R ≠ c := hc 0 (by show 0 < 2; decide)
  simp only [H.put]
  rw [if_neg (fun e => h0 e.symm)]
theorem at_anyP {f : FuncId} {xs : List V} {l : List Tz} {a d : Nat} {r : AEnd} (core : SCall Go.Proofs.Tryd.prog [] f (.ptr 1000 0 :: xs) none ⟨1002, og (rdL l a d), []⟩ r none ⟨1002, og (rdL l a d), []⟩)
  (has : Ins (fun _ => False) xs) (hr : r.In (fun _ => False)) {h : H} {R M : Nat} (hRM : R ≠ M) (hR : glim ≤ R) (hM : glim ≤ M) (h1 : h.ob R = some (rdO M l a d)) (h2 : h.ob M = some mapO) : SCall Go.Proofs.Tryd.prog [] f (.ptr R 0 :: xs) none h r none h := by
 have := at_any core has hr hRM hR hM h1 h2
 rwa [put_same h1] at this
theorem nowF_some {l : List Tz} {a : Nat} {t : Tz} (h : l[a]? = some t) : nowF l a = t := by simp only [nowF, h]
theorem nowF_none {l : List Tz} {a : Nat} (h : l.length ≤ a) : nowF l a = ⟨0, lastE l, lastE l, []⟩ := by simp only [nowF, List.getElem?_eq_none h]
theorem lastE_at {l : List Tz} {t : Tz} (h : l[l.length - 1]? = some t) : lastE l = t.e := by simp only [lastE, List.getLast?_eq_getElem?, h]
theorem subB1 {a : Nat} (h : 1 ≤ a) (hb : a < big) : IntKind.i64.wrap ((a : Int) - 1) = ((a - 1 : Nat) : Int) := subB (b := 1) h hb
theorem now_core (l : List Tz) (a d : Nat) (hl : l.length < 4294967296) : SCall Go.Proofs.Tryd.prog [] 32 [.ptr 1000 0] none ⟨1002, og (rdL l a d), []⟩ (.ret (.agg (encTz (nowF l a)))) none ⟨1002, og (rdL l a d), []⟩ := by
 refine SCall.listedR (fn := Go.Proofs.Tryd.f32) (by kernel_rfl) res32 (by kernel_rfl) (by kernel_rfl) (Nat.le_refl _) rfl ((rdL_in (by show 1001 < 1002; decide) _ _ _)) (by exact ⟨trivial, trivial, trivial, trivial, trivial⟩) ?_
 unfold rc32
 unfold rdL rdO rdC
 repeat (first | refine WR.seq ?_ | refine WR.block ?_ | refine WR.scope ?_ | refine WR.skip ?_ | refine WR.exit ?_ | refine WR.condT rfl ?_ | refine WR.condF rfl ?_ | refine WR.reg (WQ.runS [] 1000 _ _ _ _ rfl ?_) | refine WQ.nilS ?_ | refine WR.dreg hmix (DW.runS [] 1000 _ _ _ _ _ _ rfl ?_))
 refine DW.finS (by repeat (first | exact .nil | refine PendR.passM rfl ?_ | refine PendR.sameM rfl ?_ | refine PendR.lightM rfl ?_)) ?_
 rw [List.length_map]
 by_cases h : a < l.length
 ·rw [show decide ((a : Int) < (l.length : Int)) = true from decide_eq_true (by omega)]
  have hc : l[a]? = some l[a] := List.getElem?_eq_getElem h
  rw [nowF_some hc]
  generalize l[a] = t at hc ⊢
  refine WR.condT rfl ?_
  refine WR.seq (WR.dreg hmix (DW.runS [] 8 _ _ _ _ _ _ rfl ?_))
  refine DW.pureS rfl (fun h => ia_at (cs := encTz t) rfl rfl (by rw [List.getElem?_map, hc]; rfl) rfl) rfl (DW.runS [] 1000 _ _ _ _ _ _ rfl ?_)
  refine DW.stS (by repeat (first | exact .nil | refine PendR.passM rfl ?_ | refine PendR.sameM rfl ?_ | refine PendR.lightM rfl ?_)) rfl rfl rfl rfl (DW.runS [] 1000 _ _ _ _ _ _ rfl (DW.finS (by repeat (first | exact .nil | refine PendR.passM rfl ?_ | refine PendR.sameM rfl ?_ | refine PendR.lightM rfl ?_)) ?_))
  refine WR.ret ⟨rfl, rfl, ⟨_, rfl, by repeat (first | exact VLe.refl _ | exact VLe.unk _ _ | refine VLe.tup ?_ | refine VLe.agg ?_ | exact VLL.nil | refine VLL.cons ?_ ?_)⟩, fun b _ => rfl⟩
 ·rw [show decide ((a : Int) < (l.length : Int)) = false from decide_eq_false (by omega)]
  rw [nowF_none (by omega)]
  refine WR.condF rfl (WR.skip ?_)
  repeat (first | refine WR.seq ?_ | refine WR.block ?_ | refine WR.scope ?_ | refine WR.skip ?_ | refine WR.exit ?_ | refine WR.condT rfl ?_ | refine WR.condF rfl ?_ | refine WR.reg (WQ.runS [] 1000 _ _ _ _ rfl ?_) | refine WQ.nilS ?_ | refine WR.dreg hmix (DW.runS [] 1000 _ _ _ _ _ _ rfl ?_))
  rw [List.length_map]
  rcases Nat.eq_zero_or_pos l.length with h0 | h0
  ·have h0 : l = [] := List.eq_nil_of_length_eq_zero h0
   subst h0
   repeat (first | refine WR.seq ?_ | refine WR.block ?_ | refine WR.scope ?_ | refine WR.skip ?_ | refine WR.exit ?_ | refine WR.condT rfl ?_ | refine WR.condF rfl ?_ | refine WR.reg (WQ.runS [] 1000 _ _ _ _ rfl ?_) | refine WQ.nilS ?_ | refine WR.dreg hmix (DW.runS [] 1000 _ _ _ _ _ _ rfl ?_))
   refine WR.ret ⟨rfl, rfl, ⟨_, rfl, by repeat (first | exact VLe.refl _ | exact VLe.unk _ _ | refine VLe.tup ?_ | refine VLe.agg ?_ | exact VLL.nil | refine VLL.cons ?_ ?_)⟩, fun b _ => rfl⟩
  ·rw [show decide ((l.length : Int) > 0) = true from decide_eq_true (by omega)]
   have hc : l[l.length - 1]? = some l[l.length - 1] := List.getElem?_eq_getElem (by omega)
   rw [lastE_at hc]
   generalize l[l.length - 1] = t at hc ⊢
   refine WR.condT rfl ?_
   refine WR.reg (WQ.runS [] 6 _ _ _ _ rfl ?_)
   rw [subB1 (by omega) (by unfold big; omega)]
   refine WQ.lightS rfl rfl rfl (ia_at (cs := encTz t) rfl rfl (by rw [List.getElem?_map, hc]; rfl) rfl) rfl (WQ.runS [] 1000 _ _ _ _ rfl (WQ.nilS ?_))
   unfold rc32_J1
   repeat (first | refine WR.seq ?_ | refine WR.block ?_ | refine WR.scope ?_ | refine WR.skip ?_ | refine WR.exit ?_ | refine WR.condT rfl ?_ | refine WR.condF rfl ?_ | refine WR.reg (WQ.runS [] 1000 _ _ _ _ rfl ?_) | refine WQ.nilS ?_ | refine WR.dreg hmix (DW.runS [] 1000 _ _ _ _ _ _ rfl ?_))
   refine WR.ret ⟨rfl, rfl, ⟨_, rfl, by repeat (first | exact VLe.refl _ | exact VLe.unk _ _ | refine VLe.tup ?_ | refine VLe.agg ?_ | exact VLL.nil | refine VLL.cons ?_ ?_)⟩, fun b _ => rfl⟩
theorem now_at {l : List Tz} {a d : Nat} (hl : l.length < 4294967296) {h : H} {R M : Nat} (hRM : R ≠ M) (hR : glim ≤ R) (hM : glim ≤ M) (h1 : h.ob R = some (rdO M l a d)) (h2 : h.ob M = some mapO) :
  SCall Go.Proofs.Tryd.prog [] 32 [.ptr R 0] none h (.ret (.agg (encTz (nowF l a)))) none h :=
 at_anyP (now_core l a d hl) trivial ⟨trivial, trivial, trivial, trivial, trivial⟩ hRM hR hM h1 h2
theorem is_core (l : List Tz) (a d : Nat) (hl : l.length < 4294967296) (k : Int) (s : List Nat) : SCall Go.Proofs.Tryd.prog [] 49 [.ptr 1000 0, .int .i64 k, .str s] none ⟨1002, og (rdL l a d), []⟩ (.ret (.bool (isF l a k s))) none ⟨1002, og (rdL l a d), []⟩ := by
 refine SCall.listedR (fn := Go.Proofs.Tryd.f49) (by kernel_rfl) res49 (by kernel_rfl) (by kernel_rfl) (Nat.le_refl _) rfl ((rdL_in (by show 1001 < 1002; decide) _ _ _)) trivial ?_
 unfold rc49
 repeat (first | refine WR.seq ?_ | refine WR.block ?_ | refine WR.scope ?_ | refine WR.skip ?_ | refine WR.exit ?_ | refine WR.condT rfl ?_ | refine WR.condF rfl ?_ | refine WR.reg (WQ.runS [] 1000 _ _ _ _ rfl ?_) | refine WQ.nilS ?_ | refine WR.dreg hmix (DW.runS [] 1000 _ _ _ _ _ _ rfl ?_))
 refine WQ.callH rfl rfl rfl rfl rfl (now_at (l := l) (a := a) (d := d) (M := 1001) hl (by decide) (by decide) (by decide) rfl rfl) .base rfl (WQ.runS [] 1000 _ _ _ _ rfl (WQ.nilS ?_))
 unfold isF
 generalize nowF l a = t
 repeat (first | refine WR.seq ?_ | refine WR.block ?_ | refine WR.scope ?_ | refine WR.skip ?_ | refine WR.exit ?_ | refine WR.condT rfl ?_ | refine WR.condF rfl ?_ | refine WR.reg (WQ.runS [] 1000 _ _ _ _ rfl ?_) | refine WQ.nilS ?_ | refine WR.dreg hmix (DW.runS [] 1000 _ _ _ _ _ _ rfl ?_))
 refine WR.reg (WQ.runS [] 5 _ _ _ _ rfl ?_)
 refine WQ.guard 14 rfl (fun e => ?_) (fun e => ?_)
 ·rw [e]
  refine WQ.runS [] 1000 _ _ _ _ rfl (WQ.nilS ?_)
  refine WR.ret ⟨rfl, rfl, ⟨_, rfl, by repeat (first | exact VLe.refl _ | exact VLe.unk _ _ | refine VLe.tup ?_ | refine VLe.agg ?_ | exact VLL.nil | refine VLL.cons ?_ ?_)⟩, fun b _ => rfl⟩
 ·rw [e]
  refine WQ.runS [] 1000 _ _ _ _ rfl (WQ.nilS ?_)
  refine WR.ret ⟨rfl, rfl, ⟨_, rfl, by repeat (first | exact VLe.refl _ | exact VLe.unk _ _ | refine VLe.tup ?_ | refine VLe.agg ?_ | exact VLL.nil | refine VLL.cons ?_ ?_)⟩, fun b _ => rfl⟩
theorem is_at {l : List Tz} {a d : Nat} {k : Int} {s : List Nat} (hl : l.length < 4294967296) {h : H} {R M : Nat} (hRM : R ≠ M) (hR : glim ≤ R) (hM : glim ≤ M) (h1 : h.ob R = some (rdO M l a d)) (h2 : h.ob M = some mapO) :
  SCall Go.Proofs.Tryd.prog [] 49 [.ptr R 0, .int .i64 k, .str s] none h (.ret (.bool (isF l a k s))) none h :=
 at_anyP (is_core l a d hl k s) ⟨trivial, trivial, trivial⟩ trivial hRM hR hM h1 h2
def diagV (p c : Int) : List PE := [⟨.iface 25 (.agg [.int .i64 p, .int .i64 c]), false⟩]
theorem diagV_in {D : Nat → Prop} {p c : Int} : AEnd.In D (.pan (diagV p c)) := by
 intro e he
 rw [diagV, List.mem_singleton] at he
 subst he
 exact ⟨trivial, trivial, trivial⟩
theorem fail_core (l : List Tz) (a d : Nat) (hl : l.length < 4294967296) (c : Int) : SCall Go.Proofs.Tryd.prog [] 22 [.ptr 1000 0, .int .i64 c] none ⟨1002, og (rdL l a d), []⟩ (.pan (diagV (nowF l a).a c)) none ⟨1002, og (rdL l a d), []⟩ := by
 refine SCall.listedR (fn := Go.Proofs.Tryd.f22) (by kernel_rfl) res22 (by kernel_rfl) (by kernel_rfl) (Nat.le_refl _) rfl ((rdL_in (by show 1001 < 1002; decide) _ _ _)) diagV_in ?_
 unfold rc22
 repeat (first | refine WR.seq ?_ | refine WR.block ?_ | refine WR.scope ?_ | refine WR.skip ?_ | refine WR.exit ?_ | refine WR.condT rfl ?_ | refine WR.condF rfl ?_ | refine WR.reg (WQ.runS [] 1000 _ _ _ _ rfl ?_) | refine WQ.nilS ?_ | refine WR.dreg hmix (DW.runS [] 1000 _ _ _ _ _ _ rfl ?_))
 refine WQ.callH rfl rfl rfl rfl rfl (now_at (l := l) (a := a) (d := d) (M := 1001) hl (by decide) (by decide) (by decide) rfl rfl) .base rfl (WQ.runS [] 1000 _ _ _ _ rfl ?_)
 refine WQ.panS rfl rfl rfl ⟨rfl, rfl, rfl, fun _ _ => rfl⟩
theorem fail_at {l : List Tz} {a d : Nat} {c : Int} (hl : l.length < 4294967296) {h : H} {R M : Nat} (hRM : R ≠ M) (hR : glim ≤ R) (hM : glim ≤ M) (h1 : h.ob R = some (rdO M l a d)) (h2 : h.ob M = some mapO) :
  SCall Go.Proofs.Tryd.prog [] 22 [.ptr R 0, .int .i64 c] none h (.pan (diagV (nowF l a).a c)) none h :=
 at_anyP (fail_core l a d hl c) ⟨trivial, trivial⟩ diagV_in hRM hR hM h1 h2
end Go.VM
end
section
/- Expressions: what a reader's calls come to; must, within. -/
set_option maxRecDepth 100000
set_option linter.unusedVariables false
set_option linter.unusedSimpArgs false
namespace Go.VM
open Go.RowKit
inductive R (α : Type) where
 | ok (v : α) (a : Nat)
 | er (a d : Nat) (p c : Int)
 | out
def R.aend {α : Type} (enc : α → V) : R α → AEnd
 | .ok v _ => .ret (enc v)
 | .er _ _ p c => .pan (diagV p c)
 | .out => .ret (.bool false)
def R.at' {α : Type} : R α → Nat
 | .ok _ a => a
 | .er a _ _ _ => a
 | .out => 0
def R.dp {α : Type} (d0 : Nat) : R α → Nat
 | .ok _ _ => d0
 | .er _ d _ _ => d
 | .out => 0
def R.isOut {α : Type} : R α → Bool
 | .out => true
 | _ => false
def R.bind {α β : Type} (r : R α) (f : α → Nat → R β) : R β :=
 match r with
 | .ok v a => f v a
 | .er a d p c => .er a d p c
 | .out => .out
def failF {α : Type} (l : List Tz) (a d : Nat) (c : Int) : R α := .er a d (nowF l a).a c
def Sp {α : Type} (f : FuncId) (xs : List V) (l : List Tz) (a d : Nat) (enc : α → V) (r : R α) : Prop :=
 r.isOut = false → SCall Go.Proofs.Tryd.prog [] f (.ptr 1000 0 :: xs) none ⟨1002, og (rdL l a d), []⟩ (r.aend enc) none ⟨1002, og (rdL l r.at' (r.dp d)), []⟩
theorem Sp.ok {α : Type} {f : FuncId} {xs : List V} {l : List Tz} {a d : Nat} {enc : α → V} {v : α} {a' : Nat} (s : Sp f xs l a d enc (.ok v a')) (hx : Ins (fun _ => False) xs) (hv : (enc v).In (fun _ => False)) {h : H} {R M : Nat} (hRM : R ≠ M) (hR : glim ≤ R) (hM : glim ≤ M) (h1 : h.ob R = some (rdO M l a d)) (h2 : h.ob M = some mapO) :
  SCall Go.Proofs.Tryd.prog [] f (.ptr R 0 :: xs) none h (.ret (enc v)) none (h.put R (rdO M l a' d)) := at_any (r := .ret (enc v)) (s rfl) hx hv hRM hR hM h1 h2
theorem Sp.er {α : Type} {f : FuncId} {xs : List V} {l : List Tz} {a d : Nat} {enc : α → V} {a' d' : Nat} {p c : Int} (s : Sp f xs l a d enc (.er a' d' p c)) (hx : Ins (fun _ => False) xs) {h : H} {R M : Nat} (hRM : R ≠ M) (hR : glim ≤ R) (hM : glim ≤ M) (h1 : h.ob R = some (rdO M l a d)) (h2 : h.ob M = some mapO) :
  SCall Go.Proofs.Tryd.prog [] f (.ptr R 0 :: xs) none h (.pan (diagV p c)) none (h.put R (rdO M l a' d')) := at_any (r := .pan (diagV p c)) (s rfl) hx diagV_in hRM hR hM h1 h2
theorem isF_some {l : List Tz} {a : Nat} {k : Int} {s : List Nat} (h : isF l a k s = true) (hk : k ≠ 0) : l[a]? = some (nowF l a) := by
 simp only [isF, Bool.and_eq_true, decide_eq_true_eq] at h
 cases hc : l[a]? with
 | some t => rw [nowF_some hc]
 | none =>
  rw [nowF, hc] at h
  exact absurd h.1.symm hk
def mustF (l : List Tz) (a d : Nat) (s : List Nat) : R Int := match isF l a 4 s with | true => .ok (nowF l a).e (a + 1) | false => failF l a d 5
def encI (n : Int) : V := .int .i64 n
theorem must_core (l : List Tz) (a d : Nat) (hl : l.length < 4294967296) (s : List Nat) : Sp 55 [.str s] l a d encI (mustF l a d s) := by
 intro _
 unfold mustF
 cases hi : isF l a 4 s with
 | false =>
  refine SCall.listedR (fn := Go.Proofs.Tryd.f55) (by kernel_rfl) res55 (by kernel_rfl) (by kernel_rfl) (Nat.le_refl _) rfl ((rdL_in (by show 1001 < 1002; decide) _ _ _)) diagV_in ?_
  unfold rc55
  refine WR.seq (WR.reg (WQ.runS [] 1000 _ _ _ _ rfl (WQ.nilS ?_)))
  refine WR.seq (WR.seq (WR.reg (WQ.runS [] 2 _ _ _ _ rfl ?_)))
  refine WQ.callH rfl rfl rfl rfl rfl (is_at (l := l) (a := a) (d := d) (M := 1001) hl (by decide) (by decide) (by decide) rfl rfl) .base rfl (WQ.runS [] 1000 _ _ _ _ rfl (WQ.nilS ?_))
  rw [hi]
  refine WR.condT rfl ?_
  refine WR.reg (WQ.runS [] 1 _ _ _ _ rfl ?_)
  refine WQ.callPH rfl rfl rfl rfl rfl (fail_at (l := l) (a := a) (d := d) (M := 1001) hl (by decide) (by decide) (by decide) rfl rfl) .base ⟨rfl, rfl, rfl, fun _ _ => rfl⟩
 | true =>
  refine SCall.listedR (fn := Go.Proofs.Tryd.f55) (by kernel_rfl) res55 (by kernel_rfl) (by kernel_rfl) (Nat.le_refl _) rfl ((rdL_in (by show 1001 < 1002; decide) _ _ _)) trivial ?_
  unfold rc55
  refine WR.seq (WR.reg (WQ.runS [] 1000 _ _ _ _ rfl (WQ.nilS ?_)))
  refine WR.seq (WR.seq (WR.reg (WQ.runS [] 2 _ _ _ _ rfl ?_)))
  refine WQ.callH rfl rfl rfl rfl rfl (is_at (l := l) (a := a) (d := d) (M := 1001) hl (by decide) (by decide) (by decide) rfl rfl) .base rfl (WQ.runS [] 1000 _ _ _ _ rfl (WQ.nilS ?_))
  rw [hi]
  refine WR.condF rfl (WR.skip ?_)
  have hc := isF_some hi (by decide)
  have hlt := (List.getElem?_eq_some_iff.1 hc).1
  generalize nowF l a = t at hc
  unfold rc55_J1
  refine WR.seq (WR.reg (WQ.runS [] 5 _ _ _ _ rfl ?_))
  rw [nextB (by unfold big; omega)]
  refine WQ.runS [] 1000 _ _ _ _ rfl (WQ.nilS ?_)
  refine WR.seq (WR.dreg hmix (DW.runS [] 9 _ _ _ _ _ _ rfl ?_))
  rw [subB1 (by omega) (by unfold big; omega), Nat.add_sub_cancel]
  refine DW.pureS rfl (fun h => ia_at (cs := encTz t) rfl rfl (by rw [List.getElem?_map, hc]; rfl) rfl) rfl (DW.runS [] 1000 _ _ _ _ _ _ rfl ?_)
  refine DW.finS (by repeat (first | exact .nil | refine PendR.passM rfl ?_ | refine PendR.sameM rfl ?_ | refine PendR.lightM rfl ?_)) ?_
  refine WR.ret ⟨rfl, rfl, ⟨_, rfl, by repeat (first | exact VLe.refl _ | exact VLe.unk _ _ | refine VLe.tup ?_ | refine VLe.agg ?_ | exact VLL.nil | refine VLL.cons ?_ ?_)⟩, fun b _ => rfl⟩
def withinF {α : Type} (l : List Tz) (a d : Nat) (f : Nat → Nat → R α) : R α := if d = 30 then failF l a d 6 else f (a + 1) (d + 1)
def memR (l : List Tz) (a d : Nat) (rest : OL) : OL := (1000, rdO 1001 l a d) :: (1001, mapO) :: rest
theorem within_deep (l : List Tz) (a : Nat) (hl : l.length < 4294967296) (nx : Nat) (hnx : 1002 ≤ nx) (rest : OL) (hB : olB nx rest = true) (hI : olIn (· < nx) rest) (g : V) :
  SCall Go.Proofs.Tryd.prog [] 50 [.ptr 1000 0, g] none ⟨nx, og (memR l a 30 rest), []⟩ (.pan (diagV (nowF l a).a 6)) none ⟨nx, og (memR l a 30 rest), []⟩ := by
 have e1 : Nat.blt 1000 nx = true := by rw [Nat.blt_eq]; omega
 have e2 : Nat.blt 1001 nx = true := by rw [Nat.blt_eq]; omega
 refine SCall.listedR (fn := Go.Proofs.Tryd.f50) (by kernel_rfl) res50 (by kernel_rfl) (by kernel_rfl) (Nat.le_refl _) (by simp only [memR, olB, e1, e2, hB]; rfl) ⟨rdO_in (by show 1001 < nx; omega) _ _ _, mapO_in, hI⟩ diagV_in ?_
 unfold rc50
 refine WR.seq (WR.seq (WR.reg (WQ.runS [] 1000 _ _ _ _ rfl (WQ.nilS ?_))))
 refine WR.condT rfl ?_
 refine WR.reg (WQ.runS [] 1 _ _ _ _ rfl ?_)
 refine WQ.callPH rfl rfl rfl rfl rfl (fail_at (l := l) (a := a) (d := 30) (M := 1001) hl (by decide) (by decide) (by decide) rfl rfl) .base ⟨rfl, rfl, rfl, fun _ _ => rfl⟩
theorem within_er (l : List Tz) (a d : Nat) (hl : l.length < 4294967296) (ha : a < l.length) (hd : d < 30) (nx nx' : Nat) (hnx : 1002 ≤ nx) (hnn : nx ≤ nx') (rest rest' : OL) (hB : olB nx' rest' = true) (hI : olIn (· < nx') rest') (f : FuncId) (caps : List V) {a' d' : Nat} {p c : Int}
  (sc : SCall Go.Proofs.Tryd.prog [] f caps none ⟨nx, og (memR l (a + 1) (d + 1) rest), []⟩ (.pan (diagV p c)) none ⟨nx', og (memR l a' d' rest'), []⟩) :
  SCall Go.Proofs.Tryd.prog [] 50 [.ptr 1000 0, .fn (.func f) [] caps] none ⟨nx, og (memR l a d rest), []⟩ (.pan (diagV p c)) none ⟨nx', og (memR l a' d' rest'), []⟩ := by
 have e1 : Nat.blt 1000 nx' = true := by rw [Nat.blt_eq]; omega
 have e2 : Nat.blt 1001 nx' = true := by rw [Nat.blt_eq]; omega
 refine SCall.listedR (fn := Go.Proofs.Tryd.f50) (by kernel_rfl) res50 (by kernel_rfl) (by kernel_rfl) hnn (by simp only [memR, olB, e1, e2, hB]; rfl) ⟨rdO_in (by show 1001 < nx'; omega) _ _ _, mapO_in, hI⟩ diagV_in ?_
 unfold rc50
 refine WR.seq (WR.seq (WR.reg (WQ.runS [] 1000 _ _ _ _ rfl (WQ.nilS ?_))))
 rw [show decide ((d : Int) = 30) = false from decide_eq_false (by omega)]
 refine WR.condF rfl (WR.skip ?_)
 unfold rc50_J1
 refine WR.seq (WR.reg (WQ.runS [] 5 _ _ _ _ rfl ?_))
 rw [nextB (by unfold big; omega)]
 refine WQ.runS [] 1000 _ _ _ _ rfl (WQ.nilS ?_)
 refine WR.seq (WR.reg (WQ.runS [] 5 _ _ _ _ rfl ?_))
 rw [nextB (by unfold big; omega)]
 refine WQ.runS [] 1000 _ _ _ _ rfl (WQ.nilS ?_)
 refine WR.seq (WR.reg (WQ.runS [] 1 _ _ _ _ rfl ?_))
 exact WQ.callPH rfl rfl rfl rfl rfl sc .base ⟨rfl, rfl, rfl, fun _ _ => rfl⟩
theorem within_ok (l : List Tz) (a d : Nat) (hl : l.length < 4294967296) (ha : a < l.length) (hd : d < 30) (nx nx' : Nat) (hnx : 1002 ≤ nx) (hnn : nx ≤ nx') (rest rest' : OL) (hB : olB nx' rest' = true) (hI : olIn (· < nx') rest') (f : FuncId) (caps : List V) {a' : Nat}
  (sc : SCall Go.Proofs.Tryd.prog [] f caps none ⟨nx, og (memR l (a + 1) (d + 1) rest), []⟩ (.ret (.tup [])) none ⟨nx', og (memR l a' (d + 1) rest'), []⟩) :
  SCall Go.Proofs.Tryd.prog [] 50 [.ptr 1000 0, .fn (.func f) [] caps] none ⟨nx, og (memR l a d rest), []⟩ (.ret (.tup [])) none ⟨nx', og (memR l a' d rest'), []⟩ := by
 have e1 : Nat.blt 1000 nx' = true := by rw [Nat.blt_eq]; omega
 have e2 : Nat.blt 1001 nx' = true := by rw [Nat.blt_eq]; omega
 refine SCall.listedR (fn := Go.Proofs.Tryd.f50) (by kernel_rfl) res50 (by kernel_rfl) (by kernel_rfl) hnn (by simp only [memR, olB, e1, e2, hB]; rfl) ⟨rdO_in (by show 1001 < nx'; omega) _ _ _, mapO_in, hI⟩ trivial ?_
 unfold rc50
 refine WR.seq (WR.seq (WR.reg (WQ.runS [] 1000 _ _ _ _ rfl (WQ.nilS ?_))))
 rw [show decide ((d : Int) = 30) = false from decide_eq_false (by omega)]
 refine WR.condF rfl (WR.skip ?_)
 unfold rc50_J1
 refine WR.seq (WR.reg (WQ.runS [] 5 _ _ _ _ rfl ?_))
 rw [nextB (by unfold big; omega)]
 refine WQ.runS [] 1000 _ _ _ _ rfl (WQ.nilS ?_)
 refine WR.seq (WR.reg (WQ.runS [] 5 _ _ _ _ rfl ?_))
 rw [nextB (by unfold big; omega)]
 refine WQ.runS [] 1000 _ _ _ _ rfl (WQ.nilS ?_)
 refine WR.seq (WR.reg (WQ.runS [] 1 _ _ _ _ rfl ?_))
 refine WQ.callH rfl rfl rfl rfl rfl sc .base rfl ?_
 refine WQ.runS [] 1000 _ _ _ _ rfl (WQ.nilS ?_)
 refine WR.reg (WQ.runS [] 5 _ _ _ _ rfl ?_)
 rw [subB1 (by omega) (by unfold big; omega), Nat.add_sub_cancel]
 refine WQ.runS [] 1000 _ _ _ _ rfl (WQ.nilS ?_)
 exact ⟨rfl, rfl, ⟨_, rfl, VLe.refl _⟩, fun b _ => rfl⟩
end Go.VM
end
section
/- Expressions: numbers. -/
set_option maxRecDepth 100000
set_option linter.unusedVariables false
set_option linter.unusedSimpArgs false
namespace Go.VM
open Go.RowKit
@[irreducible] def dstep (n c : Nat) : Nat := n * 10 + (c - 48)
def numA : Nat → List Nat → Nat
 | n, [] => n
 | n, c :: r => numA (dstep n c) r
theorem dstep_eq (n c : Nat) : dstep n c = n * 10 + (c - 48) := by unfold dstep; exact rfl
theorem numA_cons (n c : Nat) (r : List Nat) : numA n (c :: r) = numA (dstep n c) r := rfl
def numV (s : List Nat) : Nat := numA 0 s
def digits (s : List Nat) : Bool := s.all fun c => Nat.ble 48 c && Nat.ble c 57
theorem digits_at {s : List Nat} {i c : Nat} (h : digits s = true) (hc : s[i]? = some c) : 48 ≤ c ∧ c ≤ 57 := by
 have := List.all_eq_true.1 h c (List.mem_of_getElem? hc)
 simpa [Nat.ble_eq] using this
theorem wrapB (n : Nat) : IntKind.u8.wrap (n : Int) = ((n % 256 : Nat) : Int) := by
 simp [IntKind.wrap, IntKind.bits, IntKind.signed]
def atTm (s : List Nat) (n i : Nat) : TM := [(5, .v (.str s)), (6, .v (.int .i64 n)), (47, .v (.lst (s.map fun (n : Nat) => [V.int .u8 n]) .unk)), (48, .v (.int .i64 s.length)), (49, .v (.int .i64 i))]
def pw (i : Nat) : Nat := 10 ^ i
theorem pw_succ (i : Nat) : pw (i + 1) = pw i * 10 := Nat.pow_succ ..
theorem pow15 {k : Nat} (h : k ≤ 15) : pw k ≤ 1000000000000000 := by
 unfold pw
 have : 10 ^ k ≤ 10 ^ 15 := Nat.pow_le_pow_right (by decide) h
 exact Nat.le_trans this (by decide)
theorem atoi_loop {QN : S → Prop} {QX : X → S → Prop} (s : List Nat) (hd : digits s = true) (hl : s.length ≤ 15) 
  (h0 : ∀ tm, TellT tm [] [(5, .v (.str s)), (6, .v (.int .i64 (numV s)))] → QX (.exit 0) (SL.toS ⟨tm, [], none, 1000, [], []⟩)) : ∀ (m i n : Nat), i + m = s.length → n < pw i → numA n (s.drop i) = numV s →
  WLr Go.Proofs.Tryd.prog [] ⟨Go.Proofs.Tryd.f74.ntmps, none, 74⟩ rc74_L1 (SL.toS ⟨atTm s n i, [], none, 1000, [], []⟩) QN QX := by
 intro m
 induction m with
 | zero =>
  intro i n hi hn he
  rw [List.drop_eq_nil_iff.2 (by omega)] at he
  have he : n = numV s := he
  subst he
  unfold rc74_L1
  refine WLr.of ?_
  refine WR.seq (WR.reg (WQ.runS [] 1 _ _ _ _ rfl ?_))
  rw [show decide ((i : Int) < (s.length : Int)) = false from decide_eq_false (by omega)]
  refine WQ.runS [] 1000 _ _ _ _ rfl (WQ.nilS (WR.seq (WR.condF rfl (WR.exit (h0 _ ?_)))))
  repeat (first | exact .nil | refine .cons rfl (.v (VLe.refl _)) ?_)
 | succ m ih =>
  intro i n hi hn he
  obtain ⟨c, hc, hdr⟩ : ∃ c, s[i]? = some c ∧ s.drop i = c :: s.drop (i + 1) := ⟨s[i], List.getElem?_eq_getElem (by omega), List.drop_eq_getElem_cons (by omega)⟩
  obtain ⟨hc1, hc2⟩ := digits_at hd hc
  rw [hdr, numA_cons] at he
  have hq := dstep_eq n c
  generalize dstep n c = q at he hq
  have hp := pow15 (k := i + 1) (by omega)
  have hn2 : q < pw (i + 1) := by rw [pw_succ]; omega
  unfold rc74_L1
  refine WLr.of ?_
  refine WR.seq (WR.reg (WQ.runS [] 1 _ _ _ _ rfl ?_))
  rw [show decide ((i : Int) < (s.length : Int)) = true from decide_eq_true (by omega)]
  refine WQ.runS [] 1000 _ _ _ _ rfl (WQ.nilS (WR.seq (WR.condT rfl (WR.skip ?_))))
  refine WR.seq (WR.block (WR.seq (WR.reg ?_)))
  refine WQ.lightS rfl rfl rfl (ia_at (cs := [.int .u8 c]) rfl rfl (by rw [List.getElem?_map, hc]; rfl) rfl) rfl ?_
  refine WQ.runS [] 1000 _ _ _ _ rfl (WQ.nilS ?_)
  refine WR.seq (WR.reg (WQ.runS [] 2 _ _ _ _ rfl ?_))
  rw [show IntKind.u8.wrap ((c : Int) - 48) = ((c - 48 : Nat) : Int) from by rw [show ((c : Int) - 48) = ((c - 48 : Nat) : Int) by omega, wrapB]; congr 1; omega]
  refine WQ.runS [] 1000 _ _ _ _ rfl (WQ.nilS ?_)
  refine WR.seq (WR.seq (WR.reg (WQ.runS [] 2 _ _ _ _ rfl ?_)))
  rw [show decide (((c - 48 : Nat) : Int) > 9) = false from decide_eq_false (by omega)]
  refine WQ.runS [] 1000 _ _ _ _ rfl (WQ.nilS ?_)
  refine WR.condF rfl (WR.skip ?_)
  refine WR.reg (WQ.runS [] 2 _ _ _ _ rfl ?_)
  rw [show IntKind.i64.wrap ((n : Int) * 10) = ((n * 10 : Nat) : Int) from by rw [wrap64 (by omega) (by omega)]; simp]
  refine WQ.runS [] 2 _ _ _ _ rfl ?_
  rw [show IntKind.i64.wrap (((c - 48 : Nat) : Int)) = ((c - 48 : Nat) : Int) from by rw [wrap64 (by omega) (by omega)]]
  refine WQ.runS [] 1 _ _ _ _ rfl ?_
  rw [show IntKind.i64.wrap (((n * 10 : Nat) : Int) + ((c - 48 : Nat) : Int)) = (q : Int) from by rw [show (((n * 10 : Nat) : Int) + ((c - 48 : Nat) : Int)) = (q : Int) from by omega, wrap64 (by omega) (by omega)]]
  refine WQ.runS [] 1000 _ _ _ _ rfl (WQ.nilS ?_)
  unfold rc74_J1
  refine WR.reg (WQ.runS [] 1 _ _ _ _ rfl ?_)
  rw [nextB (by unfold big; omega)]
  refine WQ.runS [] 1000 _ _ _ _ rfl (WQ.nilS ?_)
  refine WIr.again (WLr.weak ?_ (ih (i + 1) q (by omega) hn2 he))
  refine SW.tellR ?_ ?_
  ·repeat (first | exact .nil | refine .cons rfl (.v (VLe.refl _)) ?_ | refine .cons rfl (.l _ _ rfl) ?_ | refine .cons rfl (.v (VLe.unk _ _)) ?_)
  ·repeat (first | exact .nil | refine .cons rfl (.inl rfl) ?_)
theorem atoi_in {s : List Nat} (hd : digits s = true) (h1 : 1 ≤ s.length) (hl : s.length ≤ 15) (h : H) : SCall Go.Proofs.Tryd.prog [] 74 [.str s] none h (.ret (.tup [.int .i64 (numV s), .nili])) none h := by
 refine SCall.pure0 rfl ?_ (by exact ⟨trivial, trivial⟩) (by exact ⟨trivial, trivial, trivial⟩) h
 refine SCall.listed (fn := Go.Proofs.Tryd.f74) (by kernel_rfl) res74 (by kernel_rfl) (by kernel_rfl) (Nat.le_refl _) rfl (trivial) (by exact ⟨trivial, trivial, trivial⟩) ?_
 unfold rc74
 obtain ⟨c, r, rfl⟩ : ∃ c r, s = c :: r := by cases s with | nil => simp at h1 | cons c r => exact ⟨c, r, rfl⟩
 obtain ⟨hc1, hc2⟩ := digits_at (i := 0) hd rfl
 refine WR.seq (WR.reg (WQ.runS [] 1000 _ _ _ _ rfl (WQ.nilS ?_)))
 refine WR.seq (WR.reg (WQ.runS [] 1000 _ _ _ _ rfl (WQ.nilS ?_)))
 repeat (refine WR.seq ?_)
 refine WR.reg (WQ.runS [] 12 _ _ _ _ rfl ?_)
 rw [show decide ((0 : Int) < ((c :: r).length : Int)) = true from decide_eq_true (by omega)]
 refine WQ.runS [] 3 _ _ _ _ rfl ?_
 rw [show decide (((c :: r).length : Int) < 19) = true from decide_eq_true (by omega)]
 refine WQ.runS [] 1000 _ _ _ _ rfl (WQ.nilS ?_)
 repeat (refine WR.seq ?_)
 refine WR.condT rfl ?_
 repeat (refine WR.seq ?_)
 refine WR.reg (WQ.runS [] 1000 _ _ _ _ rfl (WQ.nilS ?_))
 repeat (refine WR.seq ?_)
 refine WR.reg (WQ.runS [] 3 _ _ _ _ rfl ?_)
 rw [show decide ((c : Int) = 45) = false from decide_eq_false (by omega)]
 refine WQ.runS [] 4 _ _ _ _ rfl ?_
 rw [show decide ((c : Int) = 43) = false from decide_eq_false (by omega)]
 refine WQ.runS [] 1000 _ _ _ _ rfl (WQ.nilS ?_)
 repeat (refine WR.seq ?_)
 refine WR.condF rfl (WR.skip ?_)
 unfold rc74_J4
 repeat (refine WR.seq ?_)
 refine WR.reg (WQ.runS [] 1000 _ _ _ _ rfl (WQ.nilS ?_))
 repeat (refine WR.seq ?_)
 refine WR.reg (WQ.runS [] 1000 _ _ _ _ rfl (WQ.nilS ?_))
 rw [List.length_map]
 repeat (refine WR.seq ?_)
 refine (WR.block (WR.loop (WLr.weak (s := SL.toS ⟨atTm (c :: r) 0 0, [], none, 1000, [], []⟩) ?_ (atoi_loop (c :: r) hd hl (fun tm ht => ?_) (c :: r).length 0 0 (by omega) (by decide) rfl))))
 ·refine SW.tellR ?_ ?_
  ·repeat (first | exact .nil | refine .cons rfl (.v (VLe.refl _)) ?_ | refine .cons rfl (.l _ _ rfl) ?_ | refine .cons rfl (.v (VLe.unk _ _)) ?_)
  ·repeat (first | exact .nil | refine .cons rfl (.inl rfl) ?_)
 ·refine WR.weak (SW.tellR ht .nil) ?_
  unfold rc74_J3
  repeat (refine WR.seq ?_)
  refine WR.reg (WQ.runS [] 3 _ _ _ _ rfl ?_)
  rw [show decide ((c : Int) = 45) = false from decide_eq_false (by omega)]
  refine WQ.runS [] 1000 _ _ _ _ rfl (WQ.nilS ?_)
  repeat (refine WR.seq ?_)
  refine WR.condF rfl (WR.skip ?_)
  unfold rc74_J2
  repeat (first | refine WR.seq ?_ | refine WR.block ?_ | refine WR.scope ?_ | refine WR.skip ?_ | refine WR.exit ?_ | refine WR.condT rfl ?_ | refine WR.condF rfl ?_ | refine WR.reg (WQ.runS [] 1000 _ _ _ _ rfl ?_) | refine WQ.nilS ?_ | refine WR.dreg hmix (DW.runS [] 1000 _ _ _ _ _ _ rfl ?_))
  exact WR.ret ⟨rfl, rfl, ⟨_, rfl, VLe.refl _⟩, fun _ _ => rfl⟩
theorem atoi_sp {s : List Nat} (hd : digits s = true) (h1 : 1 ≤ s.length) (hl : s.length ≤ 15) (h : H) : SCall Go.Proofs.Tryd.prog [] 70 [.str s] none h (.ret (.tup [.int .i64 (numV s), .nili])) none h := by
 refine SCall.pure0 rfl ?_ (by exact ⟨trivial, trivial⟩) (by exact ⟨trivial, trivial, trivial⟩) h
 refine SCall.listed (fn := Go.Proofs.Tryd.f70) (by kernel_rfl) res70 (by kernel_rfl) (by kernel_rfl) (Nat.le_refl _) rfl (trivial) (by exact ⟨trivial, trivial, trivial⟩) ?_
 unfold rc70
 refine WR.seq (WR.reg (WQ.runS [] 1000 _ _ _ _ rfl (WQ.nilS ?_)))
 refine WR.seq (WR.reg (WQ.runS [] 1 _ _ _ _ rfl ?_))
 refine WQ.callH rfl rfl rfl rfl rfl (atoi_in hd h1 hl _) .base rfl ?_
 refine WQ.runS [] 1000 _ _ _ _ rfl (WQ.nilS ?_)
 repeat (first | refine WR.seq ?_ | refine WR.block ?_ | refine WR.scope ?_ | refine WR.skip ?_ | refine WR.exit ?_ | refine WR.condT rfl ?_ | refine WR.condF rfl ?_ | refine WR.reg (WQ.runS [] 1000 _ _ _ _ rfl ?_) | refine WQ.nilS ?_ | refine WR.dreg hmix (DW.runS [] 1000 _ _ _ _ _ _ rfl ?_))
 exact WR.ret ⟨rfl, rfl, ⟨_, rfl, VLe.refl _⟩, fun _ _ => rfl⟩
end Go.VM
end
section
/- Expressions: the number of a token. -/
set_option maxRecDepth 100000
set_option linter.unusedVariables false
set_option linter.unusedSimpArgs false
namespace Go.VM
open Go.RowKit
def numOk (s : List Nat) : Bool := digits s && (Nat.ble 1 s.length && Nat.ble s.length 15)
def numberF (l : List Tz) (s : List Nat) (a d : Nat) : R Int := match numOk s with | true => .ok (numV s) a | false => failF l a d 2
def nuTm (s : List Nat) (i : Nat) : TM := [(0, .v (.ptr 1000 0)), (1, .v (.str s)), (10, .v (.lst (s.map fun (n : Nat) => [V.int .u8 n]) .unk)), (11, .v (.int .i64 s.length)), (12, .v (.int .i64 i))]
theorem num_loop {QN : S → Prop} {QX : X → S → Prop} (l : List Tz) (a d : Nat) (hl : l.length < 4294967296) (s : List Nat) (hs : s.length < big)
  (h0 : digits s = true → ∀ tm, TellT tm [] [(0, .v (.ptr 1000 0)), (1, .v (.str s))] → QX (.exit 0) (SL.toS ⟨tm, [], none, 1002, rdL l a d, []⟩))
  (h1 : digits s = false → ∀ tm, QX (.panic (diagV (nowF l a).a 2)) (SL.toS ⟨tm, [], none, 1002, rdL l a d, []⟩)) : ∀ (m i : Nat), i + m = s.length → digits s = digits (s.drop i) →
  WLr Go.Proofs.Tryd.prog [] ⟨Go.Proofs.Tryd.f63.ntmps, none, 63⟩ rc63_L1 (SL.toS ⟨nuTm s i, [], none, 1002, rdL l a d, []⟩) QN QX := by
 intro m
 induction m with
 | zero =>
  intro i hi he
  rw [List.drop_eq_nil_iff.2 (by omega)] at he
  have he : digits s = true := he
  unfold rc63_L1
  refine WLr.of ?_
  repeat (refine WR.seq ?_)
  refine WR.reg (WQ.runS [] 1 _ _ _ _ rfl ?_)
  rw [show decide ((i : Int) < (s.length : Int)) = false from decide_eq_false (by omega)]
  refine WQ.runS [] 1000 _ _ _ _ rfl (WQ.nilS ?_)
  repeat (refine WR.seq ?_)
  refine WR.condF rfl (WR.exit (h0 he _ ?_))
  repeat (first | exact .nil | refine .cons rfl (.v (VLe.refl _)) ?_)
 | succ m ih =>
  intro i hi he
  obtain ⟨c, hc, hdr⟩ : ∃ c, s[i]? = some c ∧ s.drop i = c :: s.drop (i + 1) := ⟨s[i], List.getElem?_eq_getElem (by omega), List.drop_eq_getElem_cons (by omega)⟩
  rw [hdr] at he
  have he : digits s = ((Nat.ble 48 c && Nat.ble c 57) && digits (s.drop (i + 1))) := he
  unfold rc63_L1
  refine WLr.of ?_
  repeat (refine WR.seq ?_)
  refine WR.reg (WQ.runS [] 1 _ _ _ _ rfl ?_)
  rw [show decide ((i : Int) < (s.length : Int)) = true from decide_eq_true (by omega)]
  refine WQ.runS [] 1000 _ _ _ _ rfl (WQ.nilS ?_)
  repeat (refine WR.seq ?_)
  refine WR.condT rfl (WR.skip ?_)
  repeat (refine WR.seq ?_)
  refine WR.block ?_
  repeat (refine WR.seq ?_)
  refine WR.reg ?_
  refine WQ.lightS rfl rfl rfl (ia_at (cs := [.int .u8 c]) rfl rfl (by rw [List.getElem?_map, hc]; rfl) rfl) rfl ?_
  refine WQ.runS [] 1000 _ _ _ _ rfl (WQ.nilS ?_)
  repeat (refine WR.seq ?_)
  refine WR.reg (WQ.runS [] 3 _ _ _ _ rfl ?_)
  by_cases hc1 : c < 48
  ·rw [show decide ((c : Int) < 48) = true from decide_eq_true (by omega)]
   refine WQ.runS [] 1000 _ _ _ _ rfl (WQ.nilS ?_)
   repeat (refine WR.seq ?_)
   refine WR.condT rfl ?_
   have e : digits s = false := by rw [he, show Nat.ble 48 c = false from by cases hq : Nat.ble 48 c with | false => rfl | true => exact absurd (Nat.le_of_ble_eq_true hq) (by omega)]; rfl
   repeat (refine WR.seq ?_)
   refine WR.reg (WQ.runS [] 1 _ _ _ _ rfl ?_)
   refine WQ.callPH rfl rfl rfl rfl rfl (fail_at (l := l) (a := a) (d := d) (M := 1001) hl (by decide) (by decide) (by decide) rfl rfl) .base (h1 e _)
  ·rw [show decide ((c : Int) < 48) = false from decide_eq_false (by omega)]
   refine WQ.runS [] 2 _ _ _ _ rfl ?_
   by_cases hc2 : c > 57
   ·rw [show decide ((c : Int) > 57) = true from decide_eq_true (by omega)]
    refine WQ.runS [] 1000 _ _ _ _ rfl (WQ.nilS ?_)
    repeat (refine WR.seq ?_)
    refine WR.condT rfl ?_
    have e : digits s = false := by rw [he, show Nat.ble c 57 = false from by cases hq : Nat.ble c 57 with | false => rfl | true => exact absurd (Nat.le_of_ble_eq_true hq) (by omega), Bool.and_false]; rfl
    repeat (refine WR.seq ?_)
    refine WR.reg (WQ.runS [] 1 _ _ _ _ rfl ?_)
    refine WQ.callPH rfl rfl rfl rfl rfl (fail_at (l := l) (a := a) (d := d) (M := 1001) hl (by decide) (by decide) (by decide) rfl rfl) .base (h1 e _)
   ·rw [show decide ((c : Int) > 57) = false from decide_eq_false (by omega)]
    refine WQ.runS [] 1000 _ _ _ _ rfl (WQ.nilS ?_)
    repeat (refine WR.seq ?_)
    refine WR.condF rfl (WR.skip ?_)
    have e : digits s = digits (s.drop (i + 1)) := by rw [he, show Nat.ble 48 c = true from Nat.ble_eq.mpr (by omega), show Nat.ble c 57 = true from Nat.ble_eq.mpr (by omega)]; rfl
    unfold rc63_J1
    repeat (refine WR.seq ?_)
    refine WR.reg (WQ.runS [] 1 _ _ _ _ rfl ?_)
    rw [nextB (by omega)]
    refine WQ.runS [] 1000 _ _ _ _ rfl (WQ.nilS ?_)
    refine WIr.again (WLr.weak ?_ (ih (i + 1) (by omega) e))
    refine SW.tellR ?_ ?_
    ·repeat (first | exact .nil | refine .cons rfl (.v (VLe.refl _)) ?_ | refine .cons rfl (.l _ _ rfl) ?_ | refine .cons rfl (.v (VLe.unk _ _)) ?_)
    ·repeat (first | exact .nil | refine .cons rfl (.inl rfl) ?_)
theorem number_core (l : List Tz) (a d : Nat) (hl : l.length < 4294967296) (s : List Nat) (hs : s.length < big) : Sp 63 [.str s] l a d encI (numberF l s a d) := by
 intro _
 unfold numberF
 cases hi : numOk s with
 | false =>
  refine SCall.listedR (fn := Go.Proofs.Tryd.f63) (by kernel_rfl) res63 (by kernel_rfl) (by kernel_rfl) (Nat.le_refl _) rfl ((rdL_in (by show 1001 < 1002; decide) _ _ _)) diagV_in ?_
  unfold rc63
  repeat (refine WR.seq ?_)
  refine WR.reg (WQ.runS [] 1000 _ _ _ _ rfl (WQ.nilS ?_))
  repeat (refine WR.seq ?_)
  refine WR.reg (WQ.runS [] 1000 _ _ _ _ rfl (WQ.nilS ?_))
  rw [List.length_map]
  repeat (refine WR.seq ?_)
  refine WR.block (WR.loop (WLr.weak (s := SL.toS ⟨nuTm s 0, [], none, 1002, rdL l a d, []⟩) ?_ (num_loop l a d hl s hs (fun hd tm ht => ?_) (fun _ tm => ⟨rfl, rfl, rfl, fun _ _ => rfl⟩) s.length 0 (by omega) rfl)))
  ·refine SW.tellR ?_ ?_
   ·repeat (first | exact .nil | refine .cons rfl (.v (VLe.refl _)) ?_ | refine .cons rfl (.l _ _ rfl) ?_ | refine .cons rfl (.v (VLe.unk _ _)) ?_)
   ·repeat (first | exact .nil | refine .cons rfl (.inl rfl) ?_)
  ·refine WR.weak (SW.tellR ht .nil) ?_
   unfold numOk at hi
   rw [hd, Bool.true_and] at hi
   unfold rc63_J3
   repeat (refine WR.seq ?_)
   refine WR.reg (WQ.runS [] 4 _ _ _ _ rfl ?_)
   by_cases h1 : s.length < 1
   ·rw [show decide ((s.length : Int) < 1) = true from decide_eq_true (by omega)]
    refine WQ.runS [] 1000 _ _ _ _ rfl (WQ.nilS ?_)
    repeat (refine WR.seq ?_)
    refine WR.condT rfl ?_
    repeat (refine WR.seq ?_)
    refine WR.reg (WQ.runS [] 1 _ _ _ _ rfl ?_)
    refine WQ.callPH rfl rfl rfl rfl rfl (fail_at (l := l) (a := a) (d := d) (M := 1001) hl (by decide) (by decide) (by decide) rfl rfl) .base ⟨rfl, rfl, rfl, fun _ _ => rfl⟩
   ·rw [show decide ((s.length : Int) < 1) = false from decide_eq_false (by omega)]
    refine WQ.runS [] 3 _ _ _ _ rfl ?_
    have h2 : s.length > 15 := by
     rw [show Nat.ble 1 s.length = true from Nat.ble_eq.mpr (by omega), Bool.true_and] at hi
     rcases Nat.lt_or_ge 15 s.length with h | h
     ·exact h
     ·rw [Nat.ble_eq.mpr h] at hi; cases hi
    rw [show decide ((s.length : Int) > 15) = true from decide_eq_true (by omega)]
    refine WQ.runS [] 1000 _ _ _ _ rfl (WQ.nilS ?_)
    repeat (refine WR.seq ?_)
    refine WR.condT rfl ?_
    repeat (refine WR.seq ?_)
    refine WR.reg (WQ.runS [] 1 _ _ _ _ rfl ?_)
    refine WQ.callPH rfl rfl rfl rfl rfl (fail_at (l := l) (a := a) (d := d) (M := 1001) hl (by decide) (by decide) (by decide) rfl rfl) .base ⟨rfl, rfl, rfl, fun _ _ => rfl⟩
 | true =>
  unfold numOk at hi
  simp only [Bool.and_eq_true, Nat.ble_eq] at hi
  obtain ⟨hd, h1, h2⟩ := hi
  refine SCall.listedR (fn := Go.Proofs.Tryd.f63) (by kernel_rfl) res63 (by kernel_rfl) (by kernel_rfl) (Nat.le_refl _) rfl ((rdL_in (by show 1001 < 1002; decide) _ _ _)) trivial ?_
  unfold rc63
  repeat (refine WR.seq ?_)
  refine WR.reg (WQ.runS [] 1000 _ _ _ _ rfl (WQ.nilS ?_))
  repeat (refine WR.seq ?_)
  refine WR.reg (WQ.runS [] 1000 _ _ _ _ rfl (WQ.nilS ?_))
  rw [List.length_map]
  repeat (refine WR.seq ?_)
  refine WR.block (WR.loop (WLr.weak (s := SL.toS ⟨nuTm s 0, [], none, 1002, rdL l a d, []⟩) ?_ (num_loop l a d hl s hs (fun hd tm ht => ?_) (fun e => by rw [hd] at e; cases e) s.length 0 (by omega) rfl)))
  ·refine SW.tellR ?_ ?_
   ·repeat (first | exact .nil | refine .cons rfl (.v (VLe.refl _)) ?_ | refine .cons rfl (.l _ _ rfl) ?_ | refine .cons rfl (.v (VLe.unk _ _)) ?_)
   ·repeat (first | exact .nil | refine .cons rfl (.inl rfl) ?_)
  ·refine WR.weak (SW.tellR ht .nil) ?_
   unfold rc63_J3
   repeat (refine WR.seq ?_)
   refine WR.reg (WQ.runS [] 4 _ _ _ _ rfl ?_)
   rw [show decide ((s.length : Int) < 1) = false from decide_eq_false (by omega)]
   refine WQ.runS [] 3 _ _ _ _ rfl ?_
   rw [show decide ((s.length : Int) > 15) = false from decide_eq_false (by omega)]
   refine WQ.runS [] 1000 _ _ _ _ rfl (WQ.nilS ?_)
   repeat (refine WR.seq ?_)
   refine WR.condF rfl (WR.skip ?_)
   unfold rc63_J2
   repeat (refine WR.seq ?_)
   refine WR.reg (WQ.runS [] 1 _ _ _ _ rfl ?_)
   refine WQ.callH rfl rfl rfl rfl rfl (atoi_sp hd h1 h2 _) .base rfl ?_
   refine WQ.runS [] 1000 _ _ _ _ rfl (WQ.nilS ?_)
   repeat (first | refine WR.seq ?_ | refine WR.block ?_ | refine WR.scope ?_ | refine WR.skip ?_ | refine WR.exit ?_ | refine WR.condT rfl ?_ | refine WR.condF rfl ?_ | refine WR.reg (WQ.runS [] 1000 _ _ _ _ rfl ?_) | refine WQ.nilS ?_ | refine WR.dreg hmix (DW.runS [] 1000 _ _ _ _ _ _ rfl ?_))
   refine WR.ret ⟨rfl, rfl, ⟨_, rfl, by repeat (first | exact VLe.refl _ | exact VLe.unk _ _ | refine VLe.tup ?_ | refine VLe.agg ?_ | exact VLL.nil | refine VLL.cons ?_ ?_)⟩, fun b _ => rfl⟩
end Go.VM
end
section
/- Expressions: types: tokens of types. -/
set_option maxRecDepth 100000
set_option linter.unusedVariables false
set_option linter.unusedSimpArgs false
namespace Go.VM
open Go.RowKit
inductive Tx where
 | mk (k : Nat) (a : Int) (p n : List Nat) (l : List Tx)
mutual
def encTx : Tx → List V
 | .mk k a p n l => [.int .i64 k, .int .i64 a, .str p, .str n, .lst (encTxs l) .unk]
def encTxs : List Tx → List (List V)
 | [] => []
 | x :: l => encTx x :: encTxs l
end
mutual
theorem encTx_in {D : Nat → Prop} : ∀ x : Tx, Ins D (encTx x)
 | .mk k a p n l => ⟨trivial, trivial, trivial, trivial, ⟨encTxs_in l, trivial⟩, trivial⟩
theorem encTxs_in {D : Nat → Prop} : ∀ l : List Tx, Inss D (encTxs l)
 | [] => trivial
 | x :: l => ⟨encTx_in x, encTxs_in l⟩
end
def zTx : List V := [.int .i64 0, .int .i64 0, .str [], .str [], .lst [] (.ex 0)]
def lsV (l : List Tz) : V := .lst (l.map encTz) .unk
theorem lsV_in {D : Nat → Prop} (l : List Tz) : (lsV l).In D := ⟨tzs_in _, trivial⟩
theorem token_sp (l : List Tz) (a : Nat) (hl : l.length < 4294967296) (h : H) : SCall Go.Proofs.Tryd.prog [] 77 [lsV l, .int .i64 a] none h (.ret (.agg (encTz (nowF l a)))) none h := by
 refine SCall.pure0 rfl ?_ (by exact ⟨lsV_in l, trivial, trivial⟩) (by exact ⟨trivial, trivial, trivial, trivial, trivial⟩) h
 refine SCall.listed (fn := Go.Proofs.Tryd.f77) (by kernel_rfl) res77 (by kernel_rfl) (by kernel_rfl) (Nat.le_refl _) rfl (trivial) (by exact ⟨trivial, trivial, trivial, trivial, trivial⟩) ?_
 unfold rc77
 unfold lsV
 repeat (refine WR.seq ?_)
 refine WR.reg (WQ.runS [] 1000 _ _ _ _ rfl (WQ.nilS ?_))
 repeat (refine WR.seq ?_)
 refine WR.reg (WQ.runS [] 3 _ _ _ _ rfl ?_)
 rw [show decide ((a : Int) ≥ 0) = true from decide_eq_true (by omega)]
 refine WQ.runS [] 4 _ _ _ _ rfl ?_
 rw [List.length_map]
 by_cases h : a < l.length
 ·rw [show decide ((a : Int) < (l.length : Int)) = true from decide_eq_true (by omega)]
  have hc : l[a]? = some l[a] := List.getElem?_eq_getElem h
  rw [nowF_some hc]
  generalize l[a] = t at hc ⊢
  refine WQ.runS [] 1000 _ _ _ _ rfl (WQ.nilS ?_)
  repeat (refine WR.seq ?_)
  refine WR.condT rfl ?_
  repeat (refine WR.seq ?_)
  refine WR.reg (WQ.runS [] 2 _ _ _ _ rfl ?_)
  refine WQ.lightS rfl rfl rfl (ia_at (cs := encTz t) rfl rfl (by rw [List.getElem?_map, hc]; rfl) rfl) rfl ?_
  refine WQ.runS [] 1000 _ _ _ _ rfl (WQ.nilS ?_)
  refine WR.ret ⟨rfl, rfl, ⟨_, rfl, by repeat (first | exact VLe.refl _ | exact VLe.unk _ _ | refine VLe.tup ?_ | refine VLe.agg ?_ | exact VLL.nil | refine VLL.cons ?_ ?_)⟩, fun b _ => rfl⟩
 ·rw [show decide ((a : Int) < (l.length : Int)) = false from decide_eq_false (by omega)]
  rw [nowF_none (by omega)]
  refine WQ.runS [] 1000 _ _ _ _ rfl (WQ.nilS ?_)
  repeat (refine WR.seq ?_)
  refine WR.condF rfl (WR.skip ?_)
  repeat (refine WR.seq ?_)
  refine WR.reg (WQ.runS [] 1000 _ _ _ _ rfl (WQ.nilS ?_))
  repeat (refine WR.seq ?_)
  refine WR.reg (WQ.runS [] 1000 _ _ _ _ rfl (WQ.nilS ?_))
  rw [List.length_map]
  repeat (refine WR.seq ?_)
  refine WR.reg (WQ.runS [] 2 _ _ _ _ rfl ?_)
  rcases Nat.eq_zero_or_pos l.length with h0 | h0
  ·have h0 : l = [] := List.eq_nil_of_length_eq_zero h0
   subst h0
   refine WQ.runS [] 1000 _ _ _ _ rfl (WQ.nilS ?_)
   repeat (refine WR.seq ?_)
   refine WR.condF rfl (WR.skip ?_)
   unfold rc77_J1
   repeat (first | refine WR.seq ?_ | refine WR.block ?_ | refine WR.scope ?_ | refine WR.skip ?_ | refine WR.exit ?_ | refine WR.condT rfl ?_ | refine WR.condF rfl ?_ | refine WR.reg (WQ.runS [] 1000 _ _ _ _ rfl ?_) | refine WQ.nilS ?_ | refine WR.dreg hmix (DW.runS [] 1000 _ _ _ _ _ _ rfl ?_))
   refine WR.ret ⟨rfl, rfl, ⟨_, rfl, by repeat (first | exact VLe.refl _ | exact VLe.unk _ _ | refine VLe.tup ?_ | refine VLe.agg ?_ | exact VLL.nil | refine VLL.cons ?_ ?_)⟩, fun b _ => rfl⟩
  ·rw [show decide ((l.length : Int) > 0) = true from decide_eq_true (by omega)]
   have hc : l[l.length - 1]? = some l[l.length - 1] := List.getElem?_eq_getElem (by omega)
   rw [lastE_at hc]
   generalize l[l.length - 1] = t at hc ⊢
   refine WQ.runS [] 1000 _ _ _ _ rfl (WQ.nilS ?_)
   repeat (refine WR.seq ?_)
   refine WR.condT rfl ?_
   repeat (refine WR.seq ?_)
   refine WR.reg (WQ.runS [] 3 _ _ _ _ rfl ?_)
   rw [subB1 (by omega) (by unfold big; omega)]
   refine WQ.lightS rfl rfl rfl (ia_at (cs := encTz t) rfl rfl (by rw [List.getElem?_map, hc]; rfl) rfl) rfl (WQ.runS [] 1000 _ _ _ _ rfl (WQ.nilS ?_))
   unfold rc77_J1
   repeat (first | refine WR.seq ?_ | refine WR.block ?_ | refine WR.scope ?_ | refine WR.skip ?_ | refine WR.exit ?_ | refine WR.condT rfl ?_ | refine WR.condF rfl ?_ | refine WR.reg (WQ.runS [] 1000 _ _ _ _ rfl ?_) | refine WQ.nilS ?_ | refine WR.dreg hmix (DW.runS [] 1000 _ _ _ _ _ _ rfl ?_))
   refine WR.ret ⟨rfl, rfl, ⟨_, rfl, by repeat (first | exact VLe.refl _ | exact VLe.unk _ _ | refine VLe.tup ?_ | refine VLe.agg ?_ | exact VLL.nil | refine VLL.cons ?_ ?_)⟩, fun b _ => rfl⟩
def symB (t : Tz) (s : List Nat) : Bool := decide (t.k = 4) && decide (t.t = s)
theorem isF_sym (l : List Tz) (a : Nat) (s : List Nat) : isF l a 4 s = symB (nowF l a) s := rfl
theorem symbol_sp (t : Tz) (s : List Nat) (h : H) : SCall Go.Proofs.Tryd.prog [] 78 [.agg (encTz t), .str s] none h (.ret (.bool (symB t s))) none h := by
 refine SCall.pure0 rfl ?_ (by exact ⟨⟨trivial, trivial, trivial, trivial, trivial⟩, trivial, trivial⟩) (by exact trivial) h
 refine SCall.listed (fn := Go.Proofs.Tryd.f78) (by kernel_rfl) res78 (by kernel_rfl) (by kernel_rfl) (Nat.le_refl _) rfl (trivial) trivial ?_
 unfold rc78
 unfold symB
 repeat (refine WR.seq ?_)
 refine WR.reg (WQ.runS [] 1000 _ _ _ _ rfl (WQ.nilS ?_))
 repeat (refine WR.seq ?_)
 refine WR.reg (WQ.runS [] 4 _ _ _ _ rfl ?_)
 refine WQ.guard 8 rfl (fun e => ?_) (fun e => ?_) <;> rw [e]
 ·refine WQ.runS [] 1000 _ _ _ _ rfl (WQ.nilS ?_)
  refine WR.ret ⟨rfl, rfl, ⟨_, rfl, by repeat (first | exact VLe.refl _ | exact VLe.unk _ _ | refine VLe.tup ?_ | refine VLe.agg ?_ | exact VLL.nil | refine VLL.cons ?_ ?_)⟩, fun b _ => rfl⟩
 ·refine WQ.runS [] 1000 _ _ _ _ rfl (WQ.nilS ?_)
  refine WR.ret ⟨rfl, rfl, ⟨_, rfl, by repeat (first | exact VLe.refl _ | exact VLe.unk _ _ | refine VLe.tup ?_ | refine VLe.agg ?_ | exact VLL.nil | refine VLL.cons ?_ ?_)⟩, fun b _ => rfl⟩
def tyV (r : R Tx) : V := match r with
 | .ok x n => .tup [.agg (encTx x), .int .i64 n, .agg [.int .i64 0, .int .i64 0]]
 | .er _ _ p c => .tup [.agg zTx, .int .i64 0, .agg [.int .i64 p, .int .i64 c]]
 | .out => .bool false
theorem fails_sp (t : Tz) (c : Int) (h : H) : SCall Go.Proofs.Tryd.prog [] 76 [.agg (encTz t), .int .i64 c] none h (.ret (tyV (.er 0 0 t.a c))) none h := by
 refine SCall.pure0 rfl ?_ (by exact ⟨⟨trivial, trivial, trivial, trivial, trivial⟩, trivial, trivial⟩) (by exact ⟨⟨trivial, trivial, trivial, trivial, ⟨trivial, trivial⟩, trivial⟩, trivial, ⟨trivial, trivial, trivial⟩, trivial⟩) h
 refine SCall.listed (fn := Go.Proofs.Tryd.f76) (by kernel_rfl) res76 (by kernel_rfl) (by kernel_rfl) (Nat.le_refl _) rfl (trivial) (by exact ⟨⟨trivial, trivial, trivial, trivial, ⟨trivial, trivial⟩, trivial⟩, trivial, ⟨trivial, trivial, trivial⟩, trivial⟩) ?_
 unfold rc76
 repeat (first | refine WR.seq ?_ | refine WR.block ?_ | refine WR.scope ?_ | refine WR.skip ?_ | refine WR.exit ?_ | refine WR.condT rfl ?_ | refine WR.condF rfl ?_ | refine WR.reg (WQ.runS [] 1000 _ _ _ _ rfl ?_) | refine WQ.nilS ?_ | refine WR.dreg hmix (DW.runS [] 1000 _ _ _ _ _ _ rfl ?_))
 refine DW.stS (by repeat (first | exact .nil | refine PendR.passM rfl ?_ | refine PendR.sameM rfl ?_ | refine PendR.lightM rfl ?_)) rfl rfl rfl rfl (DW.runS [] 1000 _ _ _ _ _ _ rfl ?_)
 refine DW.stS (by repeat (first | exact .nil | refine PendR.passM rfl ?_ | refine PendR.sameM rfl ?_ | refine PendR.lightM rfl ?_)) rfl rfl rfl rfl (DW.runS [] 1000 _ _ _ _ _ _ rfl ?_)
 refine DW.finS (by repeat (first | exact .nil | refine PendR.passM rfl ?_ | refine PendR.sameM rfl ?_ | refine PendR.lightM rfl ?_)) ?_
 exact WR.ret ⟨rfl, rfl, ⟨_, rfl, by repeat (first | exact VLe.refl _ | exact VLe.unk _ _ | refine VLe.tup ?_ | refine VLe.agg ?_ | exact VLL.nil | refine VLL.cons ?_ ?_)⟩, fun b hb => rfl⟩
end Go.VM
end
section
/- Expressions: types: the brackets ahead of a type. -/
set_option maxRecDepth 100000
set_option linter.unusedVariables false
set_option linter.unusedSimpArgs false
namespace Go.VM
open Go.RowKit
inductive OpenR where
 | brk (a : Nat) (ls : List Int)
 | er (p c : Int)
def tyOpen (l : List Tz) : Nat → Nat → List Int → OpenR
 | 0, a, ls => match symB (nowF l a) [91] with
  | false => .brk a ls
  | true => .er (nowF l a).a 6
 | m + 1, a, ls => match symB (nowF l a) [91] with
  | false => .brk a ls
  | true => match symB (nowF l (a + 1)) [93] with
   | false => .er (nowF l (a + 1)).a 5
   | true => tyOpen l m (a + 2) (ls ++ [(nowF l a).a])
def encI1 (p : Int) : List V := [.int .i64 p]
def lvI : List Int → V
 | [] => .lst [] (.ex 0)
 | p :: l => .lst ((p :: l).map encI1) (.tk 1000)
def rowI : List Int → OL
 | [] => []
 | p :: l => [(1000, .tok (p :: l).length)]
def nxI : List Int → Nat
 | [] => 1000
 | _ :: _ => 1001
theorem rowI_low (ls : List Int) (b : Nat) (h : b < 1000) : og [] b = og (rowI ls) b := by
 cases ls with
 | nil => rfl
 | cons p l => simp only [rowI, og_cons]; rw [if_neg (by omega)]
def tyTm (l : List Tz) (a : Nat) (ls : List Int) : TM := [(0, .v (lsV l)), (1, .v (.int .i64 a)), (4, .l 4 0), (5, .v (.int .i64 0)), (6, .l 6 0), (7, .v (.fn (.func 76) [] [])), (8, .v (lvI ls))]
def tyLc : LM := [(4, zTx), (6, [.int .i64 0, .int .i64 0])]
theorem symB_some {l : List Tz} {a : Nat} {s : List Nat} (h : symB (nowF l a) s = true) : l[a]? = some (nowF l a) := isF_some (k := 4) (s := s) h (by decide)
theorem symB_lt {l : List Tz} {a : Nat} {s : List Nat} (h : symB (nowF l a) s = true) : a < l.length := (List.getElem?_eq_some_iff.1 (symB_some h)).1
theorem open_loop {QN : S → Prop} {QX : X → S → Prop} (l : List Tz) (hl : l.length < 4294967296) : ∀ (m a : Nat) (ls : List Int), ls.length + m = 30 → a ≤ l.length →
  (∀ a' ls', tyOpen l m a ls = .brk a' ls' → ls'.length ≤ 30 → a' ≤ l.length → ∀ tm, TellT tm tyLc (tyTm l a' ls') → ∀ lc, TellL lc tyLc → QX (.exit 0) (SL.toS ⟨tm, [], none, nxI ls', rowI ls', lc⟩)) →
  (∀ p c, tyOpen l m a ls = .er p c → ∀ s, RetS Go.Proofs.Tryd.prog Go.Proofs.Tryd.f71 (tyV (.er 0 0 p c)) 1000 [] s → QX .ret s) →
  WLr Go.Proofs.Tryd.prog [] ⟨Go.Proofs.Tryd.f71.ntmps, none, 71⟩ rc71_L1 (SL.toS ⟨tyTm l a ls, [], none, nxI ls, rowI ls, tyLc⟩) QN QX := by
 intro m
 induction m with
 | zero =>
  intro a ls hm ha hb he
  obtain ⟨q, r, rfl⟩ : ∃ q r, ls = q :: r := by cases ls with | nil => simp at hm | cons q r => exact ⟨q, r, rfl⟩
  unfold rc71_L1
  refine WLr.of (WR.block ?_)
  repeat (refine WR.seq ?_)
  refine WR.reg (WQ.runS [] 2 _ _ _ _ rfl ?_)
  refine WQ.callH rfl rfl rfl rfl rfl (token_sp l a hl _) .base rfl ?_
  refine WQ.runS [] 1000 _ _ _ _ rfl (WQ.nilS ?_)
  repeat (refine WR.seq ?_)
  refine WR.block ?_
  repeat (refine WR.seq ?_)
  refine WR.reg (WQ.runS [] 1 _ _ _ _ rfl ?_)
  refine WQ.callH rfl rfl rfl rfl rfl (symbol_sp (nowF l a) [91] _) .base rfl ?_
  refine WQ.runS [] 1000 _ _ _ _ rfl (WQ.nilS ?_)
  cases hs : symB (nowF l a) [91] with
  | false =>
   refine WR.condT rfl (WR.exit (hb a _ (by simp only [tyOpen, hs]) (by omega) ha _ ?_ _ ?_))
   ·repeat (first | exact .nil | refine .cons rfl (.v (VLe.refl _)) ?_ | refine .cons rfl (.l _ _ rfl) ?_)
   ·repeat (first | exact .nil | refine .cons rfl (.inl rfl) ?_)
  | true =>
   refine WR.condF rfl ?_
   repeat (refine WR.seq ?_)
   refine WR.reg (WQ.runS [] 3 _ _ _ _ rfl ?_)
   rw [List.length_map, show (q :: r).length = 30 from hm, show decide (((30 : Nat) : Int) = 30) = true from rfl]
   refine WQ.runS [] 1000 _ _ _ _ rfl (WQ.nilS ?_)
   repeat (refine WR.seq ?_)
   refine WR.condT rfl ?_
   repeat (refine WR.seq ?_)
   refine WR.reg (WQ.runS [] 2 _ _ _ _ rfl ?_)
   refine WQ.callH rfl rfl rfl rfl rfl (fails_sp (nowF l a) 6 _) .base rfl ?_
   refine WQ.runS [] 1000 _ _ _ _ rfl (WQ.nilS ?_)
   exact WR.ret (he _ _ (by simp only [tyOpen, hs]) _ ⟨rfl, rfl, ⟨_, rfl, VLe.refl _⟩, fun b hb => rowI_low (q :: r) b hb⟩)
 | succ m ih =>
  intro a ls hm ha hb he
  cases ls with
  | nil =>
   unfold rc71_L1
   refine WLr.of (WR.block ?_)
   repeat (refine WR.seq ?_)
   refine WR.reg (WQ.runS [] 2 _ _ _ _ rfl ?_)
   refine WQ.callH rfl rfl rfl rfl rfl (token_sp l a hl _) .base rfl ?_
   refine WQ.runS [] 1000 _ _ _ _ rfl (WQ.nilS ?_)
   repeat (refine WR.seq ?_)
   refine WR.block ?_
   repeat (refine WR.seq ?_)
   refine WR.reg (WQ.runS [] 1 _ _ _ _ rfl ?_)
   refine WQ.callH rfl rfl rfl rfl rfl (symbol_sp (nowF l a) [91] _) .base rfl ?_
   refine WQ.runS [] 1000 _ _ _ _ rfl (WQ.nilS ?_)
   cases hs : symB (nowF l a) [91] with
   | false =>
    refine WR.condT rfl (WR.exit (hb a _ (by simp only [tyOpen, hs]) (by omega) ha _ ?_ _ ?_))
    ·repeat (first | exact .nil | refine .cons rfl (.v (VLe.refl _)) ?_ | refine .cons rfl (.l _ _ rfl) ?_)
    ·repeat (first | exact .nil | refine .cons rfl (.inl rfl) ?_)
   | true =>
    refine WR.condF rfl ?_
    repeat (refine WR.seq ?_)
    refine WR.reg (WQ.runS [] 1000 _ _ _ _ rfl (WQ.nilS ?_))
    refine WR.condF rfl ?_
    have ha1 := symB_lt hs
    repeat (refine WR.seq ?_)
    refine WR.reg (WQ.runS [] 3 _ _ _ _ rfl ?_)
    rw [nextB (by unfold big; omega)]
    refine WQ.runS [] 1 _ _ _ _ rfl ?_
    refine WQ.callH rfl rfl rfl rfl rfl (token_sp l (a + 1) hl _) .base rfl ?_
    refine WQ.callH rfl rfl rfl rfl rfl (symbol_sp (nowF l (a + 1)) [93] _) .base rfl ?_
    refine WQ.runS [] 1000 _ _ _ _ rfl (WQ.nilS ?_)
    cases hs2 : symB (nowF l (a + 1)) [93] with
    | false =>
     refine WR.condT rfl ?_
     repeat (refine WR.seq ?_)
     refine WR.reg (WQ.runS [] 4 _ _ _ _ rfl ?_)
     rw [nextB (by unfold big; omega)]
     refine WQ.runS [] 1 _ _ _ _ rfl ?_
     refine WQ.callH rfl rfl rfl rfl rfl (token_sp l (a + 1) hl _) .base rfl ?_
     refine WQ.callH rfl rfl rfl rfl rfl (fails_sp (nowF l (a + 1)) 5 _) .base rfl ?_
     refine WQ.runS [] 1000 _ _ _ _ rfl (WQ.nilS ?_)
     exact WR.ret (he _ _ (by simp only [tyOpen, hs, hs2]) _ ⟨rfl, rfl, ⟨_, rfl, VLe.refl _⟩, fun b hb => rowI_low [] b hb⟩)
    | true =>
     refine WR.condF rfl (WR.skip ?_)
     unfold rc71_J1
     repeat (refine WR.seq ?_)
     refine WR.reg (WQ.runS [] 4 _ _ _ _ rfl ?_)
     refine WQ.doesS rfl (app_exR (n2 := 1) (es2 := [encI1 (nowF l a).a]) rfl rfl (Nat.zero_lt_one) (by simp) (by simp) (by show 8 * 1 ≤ lim; decide) rfl rfl rfl rfl) rfl ?_
     have ha2 := symB_lt hs2
     refine WQ.runS [] 1000 _ _ _ _ rfl (WQ.nilS ?_)
     repeat (refine WR.seq ?_)
     refine WR.reg (WQ.runS [] 2 _ _ _ _ rfl ?_)
     rw [show IntKind.i64.wrap ((a : Int) + 2) = ((a + 2 : Nat) : Int) from by rw [wrap64 (by omega) (by omega)]; rfl]
     refine WQ.runS [] 1000 _ _ _ _ rfl (WQ.nilS ?_)
     simp only [tyOpen, hs, hs2] at hb he
     refine WIr.again (WLr.weak ?_ (ih (a + 2) [(nowF l a).a] (by simp at hm ⊢; omega) (by omega) hb he))
     refine SW.tellR ?_ ?_
     ·repeat (first | exact .nil | refine .cons rfl (.v (VLe.refl _)) ?_ | refine .cons rfl (.l _ _ rfl) ?_ | refine .cons rfl (.v (VLe.unk _ _)) ?_)
     ·repeat (first | exact .nil | refine .cons rfl (.inl rfl) ?_)
  | cons q r =>
   unfold rc71_L1
   refine WLr.of (WR.block ?_)
   repeat (refine WR.seq ?_)
   refine WR.reg (WQ.runS [] 2 _ _ _ _ rfl ?_)
   refine WQ.callH rfl rfl rfl rfl rfl (token_sp l a hl _) .base rfl ?_
   refine WQ.runS [] 1000 _ _ _ _ rfl (WQ.nilS ?_)
   repeat (refine WR.seq ?_)
   refine WR.block ?_
   repeat (refine WR.seq ?_)
   refine WR.reg (WQ.runS [] 1 _ _ _ _ rfl ?_)
   refine WQ.callH rfl rfl rfl rfl rfl (symbol_sp (nowF l a) [91] _) .base rfl ?_
   refine WQ.runS [] 1000 _ _ _ _ rfl (WQ.nilS ?_)
   cases hs : symB (nowF l a) [91] with
   | false =>
    refine WR.condT rfl (WR.exit (hb a _ (by simp only [tyOpen, hs]) (by omega) ha _ ?_ _ ?_))
    ·repeat (first | exact .nil | refine .cons rfl (.v (VLe.refl _)) ?_ | refine .cons rfl (.l _ _ rfl) ?_)
    ·repeat (first | exact .nil | refine .cons rfl (.inl rfl) ?_)
   | true =>
    refine WR.condF rfl ?_
    repeat (refine WR.seq ?_)
    refine WR.reg (WQ.runS [] 3 _ _ _ _ rfl ?_)
    rw [List.length_map, show decide (((q :: r).length : Int) = 30) = false from decide_eq_false (by omega)]
    refine WQ.runS [] 1000 _ _ _ _ rfl (WQ.nilS ?_)
    refine WR.condF rfl ?_
    have ha1 := symB_lt hs
    repeat (refine WR.seq ?_)
    refine WR.reg (WQ.runS [] 3 _ _ _ _ rfl ?_)
    rw [nextB (by unfold big; omega)]
    refine WQ.runS [] 1 _ _ _ _ rfl ?_
    refine WQ.callH rfl rfl rfl rfl rfl (token_sp l (a + 1) hl _) .base rfl ?_
    refine WQ.callH rfl rfl rfl rfl rfl (symbol_sp (nowF l (a + 1)) [93] _) .base rfl ?_
    refine WQ.runS [] 1000 _ _ _ _ rfl (WQ.nilS ?_)
    cases hs2 : symB (nowF l (a + 1)) [93] with
    | false =>
     refine WR.condT rfl ?_
     repeat (refine WR.seq ?_)
     refine WR.reg (WQ.runS [] 4 _ _ _ _ rfl ?_)
     rw [nextB (by unfold big; omega)]
     refine WQ.runS [] 1 _ _ _ _ rfl ?_
     refine WQ.callH rfl rfl rfl rfl rfl (token_sp l (a + 1) hl _) .base rfl ?_
     refine WQ.callH rfl rfl rfl rfl rfl (fails_sp (nowF l (a + 1)) 5 _) .base rfl ?_
     refine WQ.runS [] 1000 _ _ _ _ rfl (WQ.nilS ?_)
     exact WR.ret (he _ _ (by simp only [tyOpen, hs, hs2]) _ ⟨rfl, rfl, ⟨_, rfl, VLe.refl _⟩, fun b hb => rowI_low (q :: r) b hb⟩)
    | true =>
     refine WR.condF rfl (WR.skip ?_)
     unfold rc71_J1
     repeat (refine WR.seq ?_)
     refine WR.reg (WQ.runS [] 4 _ _ _ _ rfl ?_)
     refine WQ.doesS rfl (app_tkR (n := (q :: r).length) (n2 := (q :: r ++ [(nowF l a).a]).length) (es2 := (q :: r ++ [(nowF l a).a]).map encI1) rfl rfl rfl (List.length_map ..).symm ?_ ?_ ?_ rfl ?_ ?_ rfl) rfl ?_
     ·simp [encI1]
     ·simp [encI1]
     ·simp only [List.length_map, List.length_cons, List.length_nil] at hm ⊢; unfold lim; omega
     ·simp [encI1, V.clean1]
     ·simp
     have ha2 := symB_lt hs2
     refine WQ.runS [] 1000 _ _ _ _ rfl (WQ.nilS ?_)
     repeat (refine WR.seq ?_)
     refine WR.reg (WQ.runS [] 2 _ _ _ _ rfl ?_)
     rw [show IntKind.i64.wrap ((a : Int) + 2) = ((a + 2 : Nat) : Int) from by rw [wrap64 (by omega) (by omega)]; rfl]
     refine WQ.runS [] 1000 _ _ _ _ rfl (WQ.nilS ?_)
     simp only [tyOpen, hs, hs2] at hb he
     refine WIr.again (WLr.weak ?_ (ih (a + 2) (q :: r ++ [(nowF l a).a]) (by simp at hm ⊢; omega) (by omega) hb he))
     refine SW.tellR ?_ ?_
     ·repeat (first | exact .nil | refine .cons rfl (.v (VLe.refl _)) ?_ | refine .cons rfl (.l _ _ rfl) ?_ | refine .cons rfl (.v (VLe.unk _ _)) ?_)
     ·repeat (first | exact .nil | refine .cons rfl (.inl rfl) ?_)
end Go.VM
end
section
/- Expressions: types: the type itself. -/
set_option maxRecDepth 100000
set_option linter.unusedVariables false
set_option linter.unusedSimpArgs false
namespace Go.VM
open Go.RowKit
def wordX (s : List Nat) : Option Nat := match decide (s = [105, 110, 116]) with
 | true => some 1
 | false => match decide (s = [98, 111, 111, 108]) with
  | true => some 2
  | false => match decide (s = [116, 101, 120, 116]) with
   | true => some 3
   | false => none
def tyBase (l : List Tz) (a : Nat) : R Tx :=
 match decide ((nowF l a).k = 5) && (wordX (nowF l a).t).isSome with
 | true => .ok (.mk ((wordX (nowF l a).t).getD 0) (nowF l a).a [] [] []) a
 | false => match decide ((nowF l a).k = 1) with
  | true => match symB (nowF l (a + 1)) [46] with
   | true => match decide ((nowF l (a + 2)).k = 1) with
    | true => .ok (.mk 4 (nowF l a).a (nowF l a).t (nowF l (a + 2)).t []) (a + 2)
    | false => .er 0 0 (nowF l (a + 2)).a 5
   | false => .ok (.mk 4 (nowF l a).a [] (nowF l a).t []) a
  | false => .er 0 0 (nowF l a).a 5
def tyWrap : List Int → Tx → Tx
 | [], x => x
 | p :: ls, x => .mk 5 p [] [] [tyWrap ls x]
def tyF (l : List Tz) (a : Nat) : R Tx := match tyOpen l 30 a [] with
 | .er p c => .er 0 0 p c
 | .brk a' ls => match tyBase l a' with
  | .ok x a2 => .ok (tyWrap ls x) (a2 + 1)
  | .er _ _ p c => .er 0 0 p c
  | .out => .out
def xM : List (V × V) := [(.str [105, 110, 116], .int .i64 1), (.str [98, 111, 111, 108], .int .i64 2), (.str [116, 101, 120, 116], .int .i64 3)]
theorem lk_x {gl : List Nat} {nt nx M : Nat} {tm : TM} {ol : OL} {lc : LM} {x k : RX} {s : List Nat} (hx : rv gl tm x = some (.map M)) (hk : rv gl tm k = some (.str s)) (hm : og ol M = some (.map xM)) :
  LightR Go.Proofs.Tryd.prog gl nt tm ⟨nx, og ol, lc⟩ (some (.lk x k true (.int .i64 0) .str)) (.v (.tup [.int .i64 ((wordX s).getD 0), .bool (wordX s).isSome])) := by
 refine lightX_sound ?_
 simp only [lightX, rl, hx, hk, hm]
 unfold wordX
 show (match (match keyEq (.str s) (.str [105, 110, 116]) with | some true => some (some (V.int .i64 1)) | some false => (match keyEq (.str s) (.str [98, 111, 111, 108]) with | some true => some (some (V.int .i64 2)) | some false => (match keyEq (.str s) (.str [116, 101, 120, 116]) with | some true => some (some (V.int .i64 3)) | some false => some none | none => none) | none => none) | none => none) with | some (some v) => some (TV.v (okTup true v true)) | some none => some (TV.v (okTup true (.int .i64 0) false)) | none => none) = _
 rw [show keyEq (.str s) (.str [105, 110, 116]) = some (decide (s = [105, 110, 116])) from rfl, show keyEq (.str s) (.str [98, 111, 111, 108]) = some (decide (s = [98, 111, 111, 108])) from rfl, show keyEq (.str s) (.str [116, 101, 120, 116]) = some (decide (s = [116, 101, 120, 116])) from rfl]
 cases decide (s = [105, 110, 116])
 ·cases decide (s = [98, 111, 111, 108])
  ·cases decide (s = [116, 101, 120, 116]) <;> rfl
  ·rfl
 ·rfl
def wrTm (l : List Tz) (a : Nat) (ls : List Int) (i : Int) : TM := [(0, .v (lsV l)), (1, .v (.int .i64 a)), (4, .l 4 0), (5, .v (.int .i64 0)), (6, .l 6 0), (8, .v (lvI ls)), (11, .l 11 0), (15, .v (.int .i64 i))]
def wrLc (x : Tx) : LM := [(4, zTx), (6, [.int .i64 0, .int .i64 0]), (11, encTx x)]
theorem subX {k : Nat} (h : k < 100) : IntKind.i64.wrap ((k : Int) - 1) = (k : Int) - 1 := wrap64 (by omega) (by omega)
theorem lvI_some {ls : List Int} {i : Nat} {p : Int} (h : ls[i]? = some p) : ∃ c, lvI ls = .lst (ls.map encI1) c := by
 cases ls with
 | nil => cases h
 | cons q r => exact ⟨_, rfl⟩
theorem wrap_loop {QN : S → Prop} {QX : X → S → Prop} (l : List Tz) (a : Nat) (ls : List Int) (nx : Nat) (ol : OL) (hls : ls.length ≤ 30) (y : Tx)
  (h0 : ∀ tm, TellT tm (wrLc y) [(1, .v (.int .i64 a)), (4, .l 4 0), (6, .l 6 0), (11, .l 11 0)] → ∀ lc, TellL lc (wrLc y) → QX (.exit 4) (SL.toS ⟨tm, [], none, nx, ol, lc⟩)) : ∀ (k : Nat) (x : Tx), k ≤ ls.length → tyWrap (ls.take k) x = y →
  WLr Go.Proofs.Tryd.prog [] ⟨Go.Proofs.Tryd.f71.ntmps, none, 71⟩ rc71_L2 (SL.toS ⟨wrTm l a ls ((k : Int) - 1), [], none, nx, ol, wrLc x⟩) QN QX := by
 intro k
 induction k with
 | zero =>
  intro x _ hx
  have hx : x = y := hx
  subst hx
  unfold rc71_L2
  refine WLr.of ?_
  repeat (refine WR.seq ?_)
  refine WR.reg (WQ.runS [] 2 _ _ _ _ rfl ?_)
  rw [show decide ((((0 : Nat) : Int) - 1) ≥ 0) = false from rfl]
  refine WQ.runS [] 1000 _ _ _ _ rfl (WQ.nilS ?_)
  repeat (refine WR.seq ?_)
  refine WR.condF rfl (WR.exit (h0 _ ?_ _ ?_))
  ·repeat (first | exact .nil | refine .cons rfl (.v (VLe.refl _)) ?_ | refine .cons rfl (.l _ _ rfl) ?_)
  ·repeat (first | exact .nil | refine .cons rfl (.inl rfl) ?_)
 | succ k ih =>
  intro x hk hx
  obtain ⟨p, hp⟩ : ∃ p, ls[k]? = some p := ⟨ls[k], List.getElem?_eq_getElem (by omega)⟩
  have hx : tyWrap (ls.take k) (.mk 5 p [] [] [x]) = y := by
   rw [List.take_add_one, hp] at hx
   rw [← hx]
   have go : ∀ m : List Int, tyWrap (m ++ [p]) x = tyWrap m (.mk 5 p [] [] [x]) := by
    intro m
    induction m with
    | nil => rfl
    | cons q m ihm => simp only [List.cons_append, tyWrap, ihm]
   exact (go _).symm
  obtain ⟨c, hc⟩ := lvI_some hp
  obtain ⟨xk, xa, xp, xn, xl⟩ := x
  unfold rc71_L2
  refine WLr.of ?_
  rw [show ((k + 1 : Nat) : Int) - 1 = (k : Int) by omega]
  repeat (refine WR.seq ?_)
  refine WR.reg (WQ.runS [] 2 _ _ _ _ rfl ?_)
  rw [show decide ((k : Int) ≥ 0) = true from decide_eq_true (by omega)]
  refine WQ.runS [] 1000 _ _ _ _ rfl (WQ.nilS ?_)
  repeat (refine WR.seq ?_)
  refine WR.condT rfl (WR.skip ?_)
  repeat (refine WR.seq ?_)
  refine WR.block (WR.dreg hmix (DW.runS [] 2 _ _ _ _ _ _ rfl ?_))
  refine DW.pureS rfl (fun h => ia_at (cs := encI1 p) (congrArg some hc) rfl (by rw [List.getElem?_map, hp]; rfl) rfl) rfl (DW.runS [] 1000 _ _ _ _ _ _ rfl ?_)
  refine DW.stS (by repeat (first | exact .nil | refine PendR.passM rfl ?_ | refine PendR.sameM rfl ?_ | refine PendR.lightM rfl ?_)) rfl rfl rfl rfl (DW.runS [] 1000 _ _ _ _ _ _ rfl (DW.finS (by repeat (first | exact .nil | refine PendR.passM rfl ?_ | refine PendR.sameM rfl ?_ | refine PendR.lightM rfl ?_)) ?_))
  unfold rc71_J2
  repeat (refine WR.seq ?_)
  refine WR.reg (WQ.runS [] 2 _ _ _ _ rfl ?_)
  rw [subX (by omega)]
  refine WQ.runS [] 1000 _ _ _ _ rfl (WQ.nilS ?_)
  refine WIr.again (WLr.weak ?_ (ih (.mk 5 p [] [] [.mk xk xa xp xn xl]) (by omega) hx))
  refine SW.tellR ?_ ?_
  ·repeat (first | exact .nil | refine .cons rfl (.v (VLe.refl _)) ?_ | refine .cons rfl (.l _ _ rfl) ?_)
  ·refine .cons rfl (.inl rfl) (.cons rfl (.inl rfl) (.cons rfl (.inr ?_) .nil))
   repeat (first | exact .nil | refine .cons (VLe.refl _) rfl ?_ | refine .cons (VLe.unk _ _) rfl ?_)
theorem type_end {QN : S → Prop} {QX : X → S → Prop} (l : List Tz) (a : Nat) (ha : a < 4294967300) (ls : List Int) (nx : Nat) (ol : OL) (hls : ls.length ≤ 30) (x : Tx) (hol : ∀ b, b < 1000 → og [] b = og ol b) {tm : TM} {lc : LM}
  (ht : TellT tm (wrLc x) [(0, .v (lsV l)), (1, .v (.int .i64 a)), (4, .l 4 0), (5, .v (.int .i64 0)), (6, .l 6 0), (8, .v (lvI ls)), (11, .l 11 0)]) (hlc : TellL lc (wrLc x))
  (hq : ∀ s, RetS Go.Proofs.Tryd.prog Go.Proofs.Tryd.f71 (tyV (.ok (tyWrap ls x) (a + 1))) 1000 [] s → QX .ret s) :
  WR Go.Proofs.Tryd.prog [] ⟨Go.Proofs.Tryd.f71.ntmps, none, 71⟩ rc71_J4 (SL.toS ⟨tm, [], none, nx, ol, lc⟩) QN QX := by
 refine WR.weak (SW.tellR ht hlc) ?_
 unfold rc71_J4
 have hlen : ∃ c, lvI ls = .lst (ls.map encI1) c := by
  cases ls with
  | nil => exact ⟨_, rfl⟩
  | cons q r => exact ⟨_, rfl⟩
 obtain ⟨c, hc⟩ := hlen
 rw [hc]
 repeat (refine WR.seq ?_)
 refine WR.reg (WQ.runS [] 2 _ _ _ _ rfl ?_)
 rw [List.length_map]
 refine WQ.runS [] 1 _ _ _ _ rfl ?_
 rw [subX (by omega)]
 refine WQ.runS [] 1000 _ _ _ _ rfl (WQ.nilS ?_)
 repeat (refine WR.seq ?_)
 refine WR.block (WR.loop (WLr.weak (s := SL.toS ⟨wrTm l a ls ((ls.length : Int) - 1), [], none, nx, ol, wrLc x⟩) ?_ (wrap_loop l a ls nx ol hls (tyWrap ls x) (fun tm ht lc hlc => ?_) ls.length x (Nat.le_refl _) (by rw [List.take_length]))))
 ·refine SW.tellR ?_ ?_
  ·unfold wrTm
   rw [hc]
   repeat (first | exact .nil | refine .cons rfl (.v (VLe.refl _)) ?_ | refine .cons rfl (.l _ _ rfl) ?_)
  ·repeat (first | exact .nil | refine .cons rfl (.inl rfl) ?_)
 ·generalize tyWrap ls x = y at ht hlc hq
  obtain ⟨xk, xa, xp, xn, xl⟩ := y
  refine WR.weak (SW.tellR ht hlc) ?_
  unfold rc71_J3
  repeat (refine WR.seq ?_)
  refine WR.reg (WQ.runS [] 3 _ _ _ _ rfl ?_)
  rw [nextB (by unfold big; omega)]
  refine WQ.runS [] 1000 _ _ _ _ rfl (WQ.nilS ?_)
  refine WR.ret (hq _ ⟨rfl, rfl, ⟨_, rfl, by repeat (first | exact VLe.refl _ | exact VLe.unk _ _ | refine VLe.tup ?_ | refine VLe.agg ?_ | exact VLL.nil | refine VLL.cons ?_ ?_)⟩, hol⟩)
end Go.VM
end
