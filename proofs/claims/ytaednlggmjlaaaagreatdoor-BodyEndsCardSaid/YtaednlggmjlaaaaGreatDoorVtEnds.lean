/- laid for this seat: VtEnds -/
import Derived.Test.YtaednlggmjlaaaaGreatDoorRcEnds
import Derived.Test.YtaednlggmjlaaaaGreatDoorVmH
/- Whether a block ends in returns: what the program's and the document's functions tell. -/
set_option maxRecDepth 100000
set_option linter.unusedVariables false
set_option linter.unusedSimpArgs false
namespace Go.VM
open Go.RowKit
inductive ST where
 | mk (kind at_ : Int) (name : List Nat) (has : Bool) (xk xa xe : Int) (xn : List Nat) (xi tk ta : Int) (tp tn : List Nat) (targs xargs : List (List V)) (body els : List ST)
mutual
def encS : ST → List V
 | .mk kind at_ name has xk xa xe xn xi tk ta tp tn targs xargs body els => [.int .i64 kind, .int .i64 at_, .str name, .bool has, .int .i64 xk, .int .i64 xa, .int .i64 xe, .str xn, .int .i64 xi, .int .i64 tk, .int .i64 ta, .str tp, .str tn, .lst targs .unk, .lst xargs .unk, .lst (encSs body) .unk, .lst (encSs els) .unk]
def encSs : List ST → List (List V)
 | [] => []
 | x :: r => encS x :: encSs r
end
theorem encSs_map : ∀ l : List ST, encSs l = l.map encS
 | [] => rfl
 | x :: r => by simp only [encSs, encSs_map r, List.map_cons]
theorem encSs_len (l : List ST) : (encSs l).length = l.length := by rw [encSs_map, List.length_map]
theorem encSs_get {l : List ST} {i : Nat} {x : ST} (h : l[i]? = some x) : (encSs l)[i]? = some (encS x) := by rw [encSs_map, List.getElem?_map, h]; rfl
mutual
def okS : ST → Prop
 | .mk _ _ _ _ _ _ _ _ _ _ _ _ _ targs xargs body els => Inss (fun _ => False) targs ∧ Inss (fun _ => False) xargs ∧ okSs body ∧ okSs els ∧ body.length ≤ 9223372036854775807 ∧ els.length ≤ 9223372036854775807
def okSs : List ST → Prop
 | [] => True
 | x :: r => okS x ∧ okSs r
end
mutual
theorem encS_in {D : Nat → Prop} : ∀ x : ST, okS x → Ins D (encS x)
 | .mk _ _ _ _ _ _ _ _ _ _ _ _ _ targs xargs body els, h => ⟨trivial, trivial, trivial, trivial, trivial, trivial, trivial, trivial, trivial, trivial, trivial, trivial, trivial, ⟨Inss.mono (fun _ q => q.elim) h.1, trivial⟩, ⟨Inss.mono (fun _ q => q.elim) h.2.1, trivial⟩, ⟨encSs_in body h.2.2.1, trivial⟩, ⟨encSs_in els h.2.2.2.1, trivial⟩, trivial⟩
theorem encSs_in {D : Nat → Prop} : ∀ l : List ST, okSs l → Inss D (encSs l)
 | [], _ => trivial
 | x :: r, h => ⟨encS_in x h.1, encSs_in r h.2⟩
end
theorem okSs_get : ∀ {l : List ST} {i : Nat} {x : ST}, okSs l → l[i]? = some x → okS x
 | [], i, x, _, h => by simp at h
 | a :: l, 0, x, ok, h => by simp at h; subst h; exact ok.1
 | a :: l, i + 1, x, ok, h => okSs_get ok.2 (by simpa using h)
mutual
def szS : ST → Nat
 | .mk _ _ _ _ _ _ _ _ _ _ _ _ _ _ _ body els => 1 + szSs body + szSs els
def szSs : List ST → Nat
 | [] => 0
 | x :: r => szS x + szSs r
end
theorem szSs_get : ∀ {l : List ST} {i : Nat} {x : ST}, l[i]? = some x → szS x ≤ szSs l
 | [], i, x, h => by simp at h
 | a :: l, 0, x, h => by simp at h; subst h; simp only [szSs]; omega
 | a :: l, i + 1, x, h => by have := szSs_get (l := l) (i := i) (x := x) (by simpa using h); simp only [szSs]; omega
mutual
def stL : List ST → Nat → Nat
 | [], n => n
 | x :: r, n => if n ≤ 300 then stL r (stS x n) else n
def stS : ST → Nat → Nat
 | .mk _ _ _ _ _ _ _ _ _ _ _ _ _ _ _ body els, n => if stL body (n + 1) ≤ 300 then stL els (stL body (n + 1)) else stL body (n + 1)
end
mutual
theorem stL_le : ∀ (l : List ST) (n : Nat), n ≤ 301 → stL l n ≤ 301
 | [], n, h => h
 | x :: r, n, h => by
  unfold stL
  split
  ·rename_i h2; exact stL_le r _ (stS_le x n h2)
  ·exact h
theorem stS_le : ∀ (x : ST) (n : Nat), n ≤ 300 → stS x n ≤ 301
 | .mk _ _ _ _ _ _ _ _ _ _ _ _ _ _ _ body els, n, h => by
  unfold stS
  split
  ·exact stL_le els _ (by omega)
  ·exact stL_le body _ (by omega)
end
mutual
def endL : List ST → Bool
 | [] => false
 | [x] => endS x
 | _ :: y :: r => endL (y :: r)
def endS : ST → Bool
 | .mk kind _ _ has _ _ _ _ _ _ _ _ _ _ _ body els => if kind = 3 then true else if kind = 4 then (has && endL body) && endL els else false
end
theorem endL_last : ∀ (l : List ST) (x : ST), l[l.length - 1]? = some x → endL l = endS x
 | [], x, h => by simp at h
 | [y], x, h => by simp at h; subst h; rfl
 | a :: y :: r, x, h => by
  show endL (y :: r) = _
  exact endL_last (y :: r) x (by simpa using h)
def zTm (l : List ST) (n i : Nat) : TM := [(0, .v (.lst (encSs l) .unk)), (1, .v (.int .i64 n)), (5, .v (.int .i64 i))]
mutual
theorem stL_ge : ∀ (l : List ST) (n : Nat), n ≤ stL l n
 | [], n => Nat.le_refl _
 | x :: r, n => by
  unfold stL
  split
  ·have := stS_ge x n; have := stL_ge r (stS x n); omega
  ·exact Nat.le_refl _
theorem stS_ge : ∀ (x : ST) (n : Nat), n + 1 ≤ stS x n
 | .mk _ _ _ _ _ _ _ _ _ _ _ _ _ _ _ body els, n => by
  unfold stS
  have := stL_ge body (n + 1)
  split
  ·have := stL_ge els (stL body (n + 1)); omega
  ·omega
end
theorem stmts_loop {QN : S → Prop} {QX : X → S → Prop} (l : List ST) (ok : okSs l)
  (sub : ∀ (c : List ST), okSs c → szSs c + 1 ≤ szSs l → ∀ (n : Nat), n ≤ 301 → ∀ h : H, SCall Go.Proofs.Tryz.prog [] 6 [.lst (encSs c) .unk, .int .i64 n] none h (.ret (.int .i64 (stL c n))) none h) : ∀ (m i n : Nat), i + m = l.length → i ≤ n → n ≤ 301 →
  (∀ tm, tg tm 1 = some (.v (.int .i64 (stL (l.drop i) n))) → QX (.exit 0) (SL.toS ⟨tm, [], none, 1000, [], []⟩)) →
  WLr Go.Proofs.Tryz.prog [] ⟨Go.Proofs.Tryz.f6.ntmps, none, 6⟩ rc6_L1 (SL.toS ⟨zTm l n i, [], none, 1000, [], []⟩) QN QX := by
 intro m
 induction m with
 | zero =>
  intro i n hi hin hn hx
  unfold rc6_L1
  refine WLr.of ?_
  refine WR.seq (WR.seq (WR.reg (WQ.runS [] 4 _ _ _ _ rfl ?_)))
  rw [show decide ((i : Int) < ((encSs l).length : Int)) = false from decide_eq_false (by rw [encSs_len]; omega)]
  refine WQ.runS [] 1000 _ _ _ _ rfl (WQ.nilS ?_)
  refine WR.condF rfl (WR.exit ?_)
  rw [List.drop_eq_nil_iff.2 (by omega)] at hx
  exact hx _ rfl
 | succ m ih =>
  intro i n hi hin hn hx
  obtain ⟨x, hx1⟩ : ∃ x, l[i]? = some x := ⟨_, List.getElem?_eq_getElem (by omega)⟩
  have hd : l.drop i = x :: l.drop (i + 1) := by
   rw [List.drop_eq_getElem_cons (by omega)]
   congr 1
   rw [List.getElem?_eq_getElem (by omega)] at hx1; exact Option.some.inj hx1
  rw [hd] at hx
  have hg := encSs_get hx1
  have okx := okSs_get ok hx1
  have hsz := szSs_get hx1
  unfold rc6_L1
  refine WLr.of ?_
  refine WR.seq (WR.seq (WR.reg (WQ.runS [] 4 _ _ _ _ rfl ?_)))
  rw [show decide ((i : Int) < ((encSs l).length : Int)) = true from decide_eq_true (by rw [encSs_len]; omega)]
  refine WQ.runS [] 1000 _ _ _ _ rfl (WQ.nilS ?_)
  by_cases h3 : n ≤ 300
  ·rw [show decide ((n : Int) ≤ 300) = true from decide_eq_true (by omega)]
   have hs : stL (x :: l.drop (i + 1)) n = stL (l.drop (i + 1)) (stS x n) := by conv => lhs; unfold stL; rw [if_pos h3]
   rw [hs] at hx
   have hge := stS_ge x n
   have hle := stS_le x n h3
   obtain ⟨kind, at_, name, has, xk, xa, xe, xn, xi, tk, ta, tp, tn, targs, xargs, body, els⟩ := x
   have hge1 := stL_ge body (n + 1)
   have hle1 := stL_le body (n + 1) (by omega)
   simp only [szS] at hsz
   obtain ⟨_, _, okb, oke, _, _⟩ := okx
   refine WR.condT rfl (WR.skip ?_)
   refine WR.seq (WR.block (WR.seq (WR.reg (WQ.runS [] 1000 _ _ _ _ rfl (WQ.nilS ?_)))))
   rw [show IntKind.i64.wrap ((n : Int) + 1) = ((n + 1 : Nat) : Int) from by rw [wrap64 (by omega) (by omega)]; rfl]
   refine WR.seq (WR.reg (WQ.runS [] 2 _ _ _ _ rfl ?_))
   refine WQ.lightS rfl rfl rfl (ia_at rfl rfl hg rfl) rfl (WQ.runS [] 3 _ _ _ _ rfl ?_)
   refine WQ.callH rfl rfl rfl rfl rfl (sub body okb (by omega) (n + 1) (by omega) _) .base rfl (WQ.runS [] 1000 _ _ _ _ rfl (WQ.nilS ?_))
   refine WR.seq (WR.reg (WQ.runS [] 1000 _ _ _ _ rfl (WQ.nilS ?_)))
   have hfin : ∀ (tm : TM) (q : Nat), q = stS (.mk kind at_ name has xk xa xe xn xi tk ta tp tn targs xargs body els) n → tg tm 0 = some (.v (.lst (encSs l) .unk)) → tg tm 1 = some (.v (.int .i64 q)) → tg tm 5 = some (.v (.int .i64 i)) →
     WR Go.Proofs.Tryz.prog [] ⟨Go.Proofs.Tryz.f6.ntmps, none, 6⟩ rc6_J1 (SL.toS ⟨tm, [], none, 1000, [], []⟩) (fun s1 => WIr Go.Proofs.Tryz.prog [] ⟨Go.Proofs.Tryz.f6.ntmps, none, 6⟩ rc6_L1 s1 QN QX) QX := by
    intro tm q hq t0 t1 t5
    refine WR.weak (s := SL.toS ⟨zTm l q i, [], none, 1000, [], []⟩) (SW.tellR (.cons t0 (.v (VLe.refl _)) (.cons t1 (.v (VLe.refl _)) (.cons t5 (.v (VLe.refl _)) .nil))) .nil) ?_
    unfold rc6_J1
    refine WR.reg (WQ.runS [] 1000 _ _ _ _ rfl (WQ.nilS ?_))
    rw [show IntKind.i64.wrap ((i : Int) + 1) = ((i + 1 : Nat) : Int) from by rw [wrap64 (by omega) (by omega)]; rfl]
    subst hq
    refine WIr.again (WLr.weak ?_ (ih (i + 1) _ (by omega) (by omega) hle hx))
    refine SW.tellR ?_ ?_
    ·repeat (first | exact .nil | refine .cons rfl (.v (VLe.refl _)) ?_ | refine .cons rfl (.l _ _ rfl) ?_ | refine .cons rfl (.v (VLe.unk _ _)) ?_)
    ·repeat (first | exact .nil | refine .cons rfl (.inl rfl) ?_)
   by_cases h4 : stL body (n + 1) ≤ 300
   ·rw [show decide ((stL body (n + 1) : Int) ≤ 300) = true from decide_eq_true (by omega)]
    refine WR.condT rfl (WR.reg (WQ.runS [] 2 _ _ _ _ rfl ?_))
    refine WQ.lightS rfl rfl rfl (ia_at rfl rfl hg rfl) rfl (WQ.runS [] 3 _ _ _ _ rfl ?_)
    refine WQ.callH rfl rfl rfl rfl rfl (sub els oke (by omega) (stL body (n + 1)) (by omega) _) .base rfl (WQ.runS [] 1000 _ _ _ _ rfl (WQ.nilS ?_))
    exact hfin _ (stL els (stL body (n + 1))) (by simp only [stS, if_pos h4]) rfl rfl rfl
   ·rw [show decide ((stL body (n + 1) : Int) ≤ 300) = false from decide_eq_false (by omega)]
    refine WR.condF rfl (WR.skip ?_)
    exact hfin _ (stL body (n + 1)) (by simp only [stS, if_neg h4]) rfl rfl rfl
  ·rw [show decide ((n : Int) ≤ 300) = false from decide_eq_false (by omega)]
   refine WR.condF rfl (WR.exit ?_)
   have hs : stL (x :: l.drop (i + 1)) n = n := by conv => lhs; unfold stL; rw [if_neg h3]
   rw [hs] at hx
   exact hx _ rfl
theorem stmts_spec : ∀ (N : Nat) (l : List ST), szSs l ≤ N → okSs l → ∀ (n : Nat), n ≤ 301 → ∀ h : H, SCall Go.Proofs.Tryz.prog [] 6 [.lst (encSs l) .unk, .int .i64 n] none h (.ret (.int .i64 (stL l n))) none h := by
 intro N
 induction N using Nat.strongRecOn with
 | _ N ihN =>
 intro l hsz ok n hn h
 refine SCall.pure0 rfl ?_ (by exact ⟨⟨encSs_in l ok, trivial⟩, trivial, trivial⟩) (by exact trivial) h
 refine SCall.listed (fn := Go.Proofs.Tryz.f6) (by kernel_rfl) res6 (by kernel_rfl) (by kernel_rfl) (Nat.le_refl _) rfl (trivial) trivial ?_
 unfold rc6
 refine WR.seq (WR.reg (WQ.runS [] 1000 _ _ _ _ rfl (WQ.nilS ?_)))
 refine WR.seq (WR.seq (WR.reg (WQ.runS [] 1000 _ _ _ _ rfl (WQ.nilS ?_))))
 refine WR.block (WR.loop (WLr.weak (s := SL.toS ⟨zTm l n 0, [], none, 1000, [], []⟩) ?_ (stmts_loop l ok (fun c okc hc n' hn' h' => ihN (szSs c) (by omega) c (Nat.le_refl _) okc n' hn' h') l.length 0 n (by omega) (Nat.zero_le _) hn (fun tm t1 => ?_))))
 ·refine SW.tellR ?_ ?_
  ·repeat (first | exact .nil | refine .cons rfl (.v (VLe.refl _)) ?_ | refine .cons rfl (.l _ _ rfl) ?_ | refine .cons rfl (.v (VLe.unk _ _)) ?_)
  ·repeat (first | exact .nil | refine .cons rfl (.inl rfl) ?_)
 rw [List.drop_zero] at t1
 refine WR.weak (s := SL.toS ⟨[(1, .v (.int .i64 (stL l n)))], [], none, 1000, [], []⟩) (SW.tellR (.cons t1 (.v (VLe.refl _)) .nil) .nil) ?_
 unfold rc6_J2
 repeat (first | refine WR.seq ?_ | refine WR.block ?_ | refine WR.scope ?_ | refine WR.skip ?_ | refine WR.exit ?_ | refine WR.condT rfl ?_ | refine WR.condF rfl ?_ | refine WR.reg (WQ.runS [] 1000 _ _ _ _ rfl ?_) | refine WQ.nilS ?_ | refine WR.dreg hmix (DW.runS [] 1000 _ _ _ _ _ _ rfl ?_))
 refine WR.ret ⟨rfl, rfl, ⟨_, rfl, VLe.refl _⟩, fun b _ => rfl⟩
end Go.VM
