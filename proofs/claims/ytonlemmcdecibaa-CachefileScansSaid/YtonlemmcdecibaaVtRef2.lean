/- laid for this seat: VtRef2 -/
import Derived.Test.YtonlemmcdecibaaVtRef
import Derived.Test.YtonlemmcdecibaaVmR
/- The document's Scan. -/
set_option maxRecDepth 100000
set_option linter.unusedVariables false
set_option linter.unusedSimpArgs false
namespace Go.VM
open Go.RowKit
def recD (b : List Nat) (a kind : Nat) : Option Rec :=
 if kind = 1 then
  if (textR b (textR b (a + 1) false).2.1 (textR b (a + 1) false).2.2).2.2 = true then none
  else some ⟨kind, (textR b (a + 1) false).1, (textR b (textR b (a + 1) false).2.1 (textR b (a + 1) false).2.2).1, 0, (textR b (textR b (a + 1) false).2.1 (textR b (a + 1) false).2.2).2.1⟩
 else if (numR b (a + 1) false).2.2 = true ∨ ¬ (kind = 2 ∨ kind = 3) then none
 else some ⟨kind, [], [], (numR b (a + 1) false).1, (numR b (a + 1) false).2.1⟩
def scanD (b : List Nat) : Nat → Nat → Sc → Sc
 | 0, _, s => s
 | m + 1, a, s => match b[a]? with
  | none => s
  | some kind => match recD b a kind with
   | none => s
   | some x => match addF s x with
    | none => s
    | some s' => scanD b m x.e s'
theorem textR_le {b : List Nat} {a : Nat} {w : Bool} (ha : a ≤ b.length) (h8 : ∀ x ∈ b, x < 256) : (textR b a w).2.1 ≤ b.length ∧ a ≤ (textR b a w).2.1 := by
 have h := numR_ok (w := w) ha h8
 unfold textR
 split
 ·exact ⟨h.1, h.2.1⟩
 ·rename_i h1
  have : ¬ (numR b a w).1 > b.length - (numR b a w).2.1 := fun q => h1 (.inr q)
  simp only; omega
def lvD : List Ent → V
 | [] => .lst [] (.ex 0)
 | _ :: l => .sl (1001 + l.length) 0 (l.length + 1) (.op 4)
def rowD : List Ent → OL
 | [] => []
 | e :: l => [(1001 + l.length, .cells true (flat (e :: l)))]
def nxD (l : List Ent) : Nat := 1001 + l.length
def preD (b : List Nat) (a : Nat) (w : Bool) : OL := [(1000, .cells false (rdV b a w))]
theorem preD_lt {b : List Nat} {a : Nat} {w : Bool} {N : Nat} (h : 1001 ≤ N) : keysLt (preD b a w) N := by
 intro e he
 simp only [preD, List.mem_singleton] at he
 subst he; simp only; omega
def dTm (b : List Nat) (s : Sc) (a : Nat) : TM := [(0, .v (.str b)), (4, .v (.ptr 1000 0)), (5, .v (lvD s.l)), (6, .v (.int .i64 s.last)), (7, .v (.int .i64 a))]
theorem scanD_app {nt : Nat} {tm : TM} {x y : RX} {z : List V} {c : LC} {lc : LM} {b : List Nat} {a : Nat} {w : Bool} (l : List Ent) (e : Ent) (hl : l.length ≤ 4000) (hx : rv [] tm x = some (lvD l)) (hy : rv [] tm y = some (.lst [encE e] c)) :
  DoesR Go.Proofs.Try.prog [] nt tm ⟨nxD l, og (preD b a w ++ rowD l), lc⟩ (some (.app x y 4 48 z)) (.v (lvD (l ++ [e]))) ⟨nxD (l ++ [e]), og (preD b a w ++ rowD (l ++ [e])), lc⟩ := by
 cases l with
 | nil => exact rowApp0 (p := preD b a w) (nx := 1001) (preD_lt (Nat.le_refl _)) hx hy (fun e he => by simp at he; subst he; rfl) (by simp) (by simp [lim]) rfl rfl
 | cons e0 l =>
  have := rowApp (P := Go.Proofs.Try.prog) (gl := []) (nt := nt) (tm := tm) (x := x) (y := y) (z := z) (lc := lc) (bytes := 48) (p := preD b a w) (N := 1001 + l.length) (nx := 1001 + (l.length + 1)) (n := l.length + 1) (n2 := (l ++ [e]).length + 1) (sz := 4) (opn := true) (cs := flat (e0 :: l)) (fs := [encE e]) (fl := flat (e0 :: (l ++ [e]))) (preD_lt (by omega)) (by show 1000 ≤ _; omega) (by omega) hx (by rw [flat_len4]; rfl) (by omega) hy (fun e he => by simp at he; subst he; rfl) (by simp) (by simp [lim] at hl ⊢; omega) (by simp) (by rw [← List.cons_append, flat_snoc]; simp)
  have e1 : nxD (e0 :: l ++ [e]) = 1001 + (l.length + 1) + 1 := by simp [nxD]; omega
  have e2 : lvD (e0 :: l ++ [e]) = .sl (1001 + (l.length + 1)) 0 ((l ++ [e]).length + 1) (.op 4) := by simp [lvD]
  have e3 : rowD (e0 :: l ++ [e]) = [(1001 + (l.length + 1), .cells true (flat (e0 :: (l ++ [e]))))] := by simp [rowD]
  rw [e1, e2, e3]
  exact this
theorem lenD {nt : Nat} {tm : TM} {h : H} {x : RX} {l : List Ent} (hx : rv [] tm x = some (lvD l)) : LightR Go.Proofs.Try.prog [] nt tm h (some (.lenL x)) (.v (.int .i64 l.length)) := by
 refine lightX_sound ?_
 cases l with
 | nil => simp only [lightX, rl, hx]; rfl
 | cons e l => simp only [lightX, rl, hx]; rfl
theorem lvD_some {l : List Ent} {n : Nat} {e : Ent} (h : l[n]? = some e) : ∃ N, 1001 ≤ N ∧ lvD l = .sl N 0 l.length (.op 4) ∧ rowD l = [(N, .cells true (flat l))] ∧ ∀ e2, lvD (l.set n e2) = lvD l ∧ rowD (l.set n e2) = [(N, .cells true (flat (l.set n e2)))] ∧ nxD (l.set n e2) = nxD l := by
 cases l with
 | nil => simp at h
 | cons e0 l =>
  refine ⟨1001 + l.length, by omega, rfl, rfl, fun e2 => ?_⟩
  cases n with
  | zero => exact ⟨rfl, rfl, rfl⟩
  | succ n => simp [lvD, rowD, nxD]
theorem scanD_loop (b : List Nat) (hlen : b.length ≤ 4000) (h8 : ∀ x ∈ b, x < 256) {QN : S → Prop} {QX : X → S → Prop} : ∀ (m a : Nat) (s : Sc), b.length - a < m → a ≤ b.length → s.l.length ≤ a → s.last ≤ a → s.good = a →
  (∀ tm lc a' w', tg tm 5 = some (.v (lvD (scanD b m a s).l)) → tg tm 7 = some (.v (.int .i64 (scanD b m a s).good)) → QX (.exit 0) (SL.toS ⟨tm, [], none, nxD (scanD b m a s).l, preD b a' w' ++ rowD (scanD b m a s).l, lc⟩)) →
  (∀ tm lc a' w', tg tm 2 = some (.v (lvD (scanD b m a s).l)) → tg tm 3 = some (.v (.int .i64 (scanD b m a s).good)) → QX .ret (SL.toS ⟨tm, [], none, nxD (scanD b m a s).l, preD b a' w' ++ rowD (scanD b m a s).l, lc⟩)) →
  WLr Go.Proofs.Try.prog [] ⟨Go.Proofs.Try.f13.ntmps, none, 13⟩ rc13_L1 (SL.toS ⟨dTm b s a, [], none, nxD s.l, preD b a false ++ rowD s.l, []⟩) QN QX := by
 intro m
 induction m with
 | zero => intro a s h; omega
 | succ m ih =>
  intro a s hm hal hl hlast hgood hx hr
  unfold rc13_L1
  refine WLr.of ?_
  refine WR.seq (WR.seq (WR.reg (WQ.runS [] 1000 _ _ _ _ rfl (WQ.nilS ?_))))
  cases hk : b[a]? with
  | none =>
   have hge : b.length ≤ a := List.getElem?_eq_none_iff.1 hk
   rw [show decide ((a : Int) < (b.length : Int)) = false from decide_eq_false (by omega)]
   repeat (first | refine WR.seq ?_ | refine WR.block ?_ | refine WR.scope ?_ | refine WR.skip ?_ | refine WR.exit ?_ | refine WR.condT rfl ?_ | refine WR.condF rfl ?_ | refine WR.reg (WQ.runS [] 1000 _ _ _ _ rfl ?_) | refine WQ.nilS ?_ | refine WR.dreg hmix (DW.runS [] 1000 _ _ _ _ _ _ rfl ?_))
   simp only [scanD, hk] at hx
   exact hx _ _ _ _ rfl (by rw [hgood]; rfl)
  | some kind =>
   have hlt := (List.getElem?_eq_some_iff.1 hk).1
   have hk8 : kind < 256 := h8 _ (List.mem_of_getElem? hk)
   have hone : oneF b a false = (kind, a + 1, false) := by simp [oneF, hk]
   rw [show decide ((a : Int) < (b.length : Int)) = true from decide_eq_true (by omega)]
   refine WR.condT rfl (WR.skip ?_)
   refine WR.block (WR.seq (WR.reg (WQ.runS [] 1 _ _ _ _ rfl ?_)))
   refine WQ.callH rfl rfl rfl rfl rfl (one_spec b a false hlen h8 (by decide) rfl) (.put .base rfl) rfl ?_
   rw [hone]
   refine WQ.runS [] 1000 _ _ _ _ rfl (WQ.nilS ?_)
   refine WR.seq (WR.seq (WR.reg (WQ.runS [] 1000 _ _ _ _ rfl (WQ.nilS ?_))))
   have t1 := textR_le (w := false) (show a + 1 ≤ b.length by omega) h8
   have t2 := textR_le (w := (textR b (a + 1) false).2.2) t1.1 h8
   have n1 := numR_ok (w := false) (show a + 1 ≤ b.length by omega) h8
   by_cases hk1 : kind = 1
   ·rw [show decide ((kind : Int) = 1) = true from decide_eq_true (by omega)]
    refine WR.condT rfl ?_
    refine WR.seq (WR.reg (WQ.runS [] 1 _ _ _ _ rfl ?_))
    refine WQ.callH rfl rfl rfl rfl rfl (textR_spec b (a + 1) false hlen (by omega) h8 (by decide) rfl) (.put .base rfl) rfl ?_
    refine WQ.runS [] 1000 _ _ _ _ rfl (WQ.nilS ?_)
    refine WR.seq (WR.reg (WQ.runS [] 1 _ _ _ _ rfl ?_))
    refine WQ.callH rfl rfl rfl rfl rfl (textR_spec b _ _ hlen t1.1 h8 (by decide) rfl) (.put .base rfl) rfl ?_
    refine WQ.runS [] 1000 _ _ _ _ rfl (WQ.nilS ?_)
    have hrec : recD b a kind = if (textR b (textR b (a + 1) false).2.1 (textR b (a + 1) false).2.2).2.2 = true then none else some ⟨kind, (textR b (a + 1) false).1, (textR b (textR b (a + 1) false).2.1 (textR b (a + 1) false).2.2).1, 0, (textR b (textR b (a + 1) false).2.1 (textR b (a + 1) false).2.2).2.1⟩ := by unfold recD; rw [if_pos hk1]
    generalize textR b (textR b (a + 1) false).2.1 (textR b (a + 1) false).2.2 = q at *
    generalize textR b (a + 1) false = q0 at *
    obtain ⟨k, a2, w2⟩ := q0
    obtain ⟨v, a3, w3⟩ := q
    simp only at t1 t2 hrec
    cases w3 with
    | true =>
     rw [if_pos rfl] at hrec
     simp only [scanD, hk, hrec] at hr
     repeat (first | refine WR.seq ?_ | refine WR.block ?_ | refine WR.scope ?_ | refine WR.skip ?_ | refine WR.exit ?_ | refine WR.condT rfl ?_ | refine WR.condF rfl ?_ | refine WR.reg (WQ.runS [] 1000 _ _ _ _ rfl ?_) | refine WQ.nilS ?_ | refine WR.dreg hmix (DW.runS [] 1000 _ _ _ _ _ _ rfl ?_))
     exact WR.ret (hr _ _ _ _ rfl (by rw [hgood]; rfl))
    | false =>
     rw [if_neg (by simp)] at hrec
     have hadd : addF s ⟨kind, k, v, 0, a3⟩ = some ⟨s.l ++ [⟨k, v, false, 0⟩], a3, s.last⟩ := by simp [addF, hk1]
     simp only [scanD, hk, hrec, hadd] at hx hr
     repeat (first | refine WR.seq ?_ | refine WR.block ?_ | refine WR.scope ?_ | refine WR.skip ?_ | refine WR.exit ?_ | refine WR.condT rfl ?_ | refine WR.condF rfl ?_ | refine WR.reg (WQ.runS [] 1000 _ _ _ _ rfl ?_) | refine WQ.nilS ?_ | refine WR.dreg hmix (DW.runS [] 1000 _ _ _ _ _ _ rfl ?_))
     refine WQ.doesS rfl (scanD_app (b := b) (a := a3) (w := false) s.l ⟨k, v, false, 0⟩ (by omega) rfl rfl) rfl ?_
     refine WQ.runS [] 1000 _ _ _ _ rfl (WQ.nilS ?_)
     repeat (first | refine WR.seq ?_ | refine WR.block ?_ | refine WR.scope ?_ | refine WR.skip ?_ | refine WR.exit ?_ | refine WR.condT rfl ?_ | refine WR.condF rfl ?_ | refine WR.reg (WQ.runS [] 1000 _ _ _ _ rfl ?_) | refine WQ.nilS ?_ | refine WR.dreg hmix (DW.runS [] 1000 _ _ _ _ _ _ rfl ?_))
     have ih' := ih a3 ⟨s.l ++ [(⟨k, v, false, 0⟩ : Ent)], a3, s.last⟩ (by omega) (by omega) (by simp; omega) (by simp only; omega) rfl hx hr
     refine WIr.again (WLr.weak ?_ ih')
     refine SW.tellR ?_ ?_
     ·repeat (first | exact .nil | refine .cons rfl (.v (VLe.refl _)) ?_ | refine .cons rfl (.l _ _ rfl) ?_ | refine .cons rfl (.v (VLe.unk _ _)) ?_)
     ·repeat (first | exact .nil | refine .cons rfl (.inl rfl) ?_)
   ·rw [show decide ((kind : Int) = 1) = false from decide_eq_false (by omega)]
    refine WR.condF rfl (WR.skip ?_)
    refine WR.seq (WR.reg (WQ.runS [] 1 _ _ _ _ rfl ?_))
    refine WQ.callH rfl rfl rfl rfl rfl (numR_spec b (a + 1) false hlen h8 (by decide) rfl) (.put .base rfl) rfl ?_
    refine WQ.runS [] 1000 _ _ _ _ rfl (WQ.nilS ?_)
    have hrec : recD b a kind = if (numR b (a + 1) false).2.2 = true ∨ ¬ (kind = 2 ∨ kind = 3) then none else some ⟨kind, [], [], (numR b (a + 1) false).1, (numR b (a + 1) false).2.1⟩ := by unfold recD; rw [if_neg hk1]
    generalize numR b (a + 1) false = q at *
    obtain ⟨n, a2, w2⟩ := q
    simp only at n1 hrec
    cases w2 with
    | true =>
     rw [if_pos (Or.inl rfl)] at hrec
     simp only [scanD, hk, hrec] at hr
     repeat (first | refine WR.seq ?_ | refine WR.block ?_ | refine WR.scope ?_ | refine WR.skip ?_ | refine WR.exit ?_ | refine WR.condT rfl ?_ | refine WR.condF rfl ?_ | refine WR.reg (WQ.runS [] 1000 _ _ _ _ rfl ?_) | refine WQ.nilS ?_ | refine WR.dreg hmix (DW.runS [] 1000 _ _ _ _ _ _ rfl ?_))
     exact WR.ret (hr _ _ _ _ rfl (by rw [hgood]; rfl))
    | false =>
     refine WR.seq (WR.seq (WR.reg (WQ.runS [] 7 _ _ _ _ rfl ?_)))
     by_cases hk2 : kind = 2
     ·rw [if_neg (by simp [hk2])] at hrec
      rw [show decide ((kind : Int) = 2) = true from decide_eq_true (by omega)]
      refine WQ.runS [] 8 _ _ _ _ rfl ?_
      cases hq : s.l[n]? with
      | none =>
       have hge : s.l.length ≤ n := List.getElem?_eq_none_iff.1 hq
       have hadd : addF s ⟨kind, [], [], n, a2⟩ = none := by simp [addF, hk1, hq]
       simp only [scanD, hk, hrec, hadd] at hr
       refine WQ.lightS rfl rfl rfl (lenD (l := s.l) rfl) rfl (WQ.runS [] 1 _ _ _ _ rfl ?_)
       rw [show decide ((n : Int) ≥ (s.l.length : Int)) = true from decide_eq_true (by omega)]
       refine WQ.runS [] 1000 _ _ _ _ rfl (WQ.nilS ?_)
       repeat (first | refine WR.seq ?_ | refine WR.block ?_ | refine WR.scope ?_ | refine WR.skip ?_ | refine WR.exit ?_ | refine WR.condT rfl ?_ | refine WR.condF rfl ?_ | refine WR.reg (WQ.runS [] 1000 _ _ _ _ rfl ?_) | refine WQ.nilS ?_ | refine WR.dreg hmix (DW.runS [] 1000 _ _ _ _ _ _ rfl ?_))
       exact WR.ret (hr _ _ _ _ rfl (by rw [hgood]; rfl))
      | some e1 =>
       obtain ⟨N, hN, hlv, hrow, hset⟩ := lvD_some hq
       have hlt2 : n < s.l.length := (List.getElem?_eq_some_iff.1 hq).1
       have hp : ∀ a4 w4, keysLt (preD b a4 w4) N := fun _ _ => preD_lt hN
       have hN2 : glim ≤ N := by show 1000 ≤ N; omega
       rw [hrow]
       refine WQ.lightS rfl rfl rfl (lenD (l := s.l) rfl) rfl (WQ.runS [] 1 _ _ _ _ rfl ?_)
       rw [show decide ((n : Int) ≥ (s.l.length : Int)) = false from decide_eq_false (by omega)]
       refine WQ.runS [] 4 _ _ _ _ rfl ?_
       refine WQ.lightS rfl rfl rfl (rowIa (congrArg some hlv) rfl hlt2) rfl (WQ.runS [] 1 _ _ _ _ rfl ?_)
       refine WQ.lightS rfl rfl rfl (rowLd (p := preD b a2 false) (hp _ _) rfl (v := .bool e1.live) (by rw [Nat.zero_add]; exact flat_get2 _ _ _ hq)) rfl ?_
       by_cases hlive : e1.live = decide (kind = 3)
       ·have hadd : addF s ⟨kind, [], [], n, a2⟩ = some ⟨s.l.set n { e1 with live := true, last := s.last + 1 }, a2, s.last + 1⟩ := by simp only [addF, if_neg hk1, hq, if_pos hlive]
        simp only [scanD, hk, hrec, hadd] at hx hr
        refine WQ.runS [] 1000 _ _ _ _ rfl (WQ.nilS ?_)
        rw [show (!(e1.live == decide ((kind : Int) = 3))) = false from by rw [show decide ((kind : Int) = 3) = decide (kind = 3) from by simp only [decide_eq_decide]; omega, hlive]; simp]
        refine WR.condF rfl (WR.skip ?_)
        refine WR.seq (WR.reg (WQ.runS [] 1000 _ _ _ _ rfl (WQ.nilS ?_)))
        rw [show IntKind.i64.wrap ((s.last : Int) + 1) = ((s.last + 1 : Nat) : Int) from by rw [wrap64 (by omega) (by omega)]; rfl]
        have hflen : ∀ m : List Ent, m.length = s.l.length → n * 4 + 3 < (flat m).length := fun m hm => by rw [flat_len4, hm]; omega
        have hs2 : (s.l.set n { e1 with live := true })[n]? = some { e1 with live := true } := by rw [List.getElem?_set]; simp [hlt2]
        refine WR.seq (WR.reg (WQ.runS [] 2 _ _ _ _ rfl ?_))
        refine WQ.lightS rfl rfl rfl (rowIa (congrArg some hlv) rfl hlt2) rfl (WQ.runS [] 1 _ _ _ _ rfl ?_)
        refine WQ.doesS rfl (DoesR.store (rowSt (p := preD b a2 false) (cs' := flat (s.l.set n { e1 with live := true })) (hp _ _) hN2 rfl rfl rfl (by rw [Nat.zero_add]; have := hflen s.l rfl; omega) (by rw [Nat.zero_add]; exact flat_set2 true s.l n e1 hq)) rfl) rfl (WQ.nilS ?_)
        refine WR.seq (WR.reg (WQ.runS [] 3 _ _ _ _ rfl ?_))
        refine WQ.lightS rfl rfl rfl (rowIa (congrArg some hlv) rfl hlt2) rfl (WQ.runS [] 1 _ _ _ _ rfl ?_)
        refine WQ.doesS rfl (DoesR.store (rowSt (p := preD b a2 false) (cs' := flat (s.l.set n { e1 with live := true, last := s.last + 1 })) (hp _ _) hN2 rfl rfl rfl (by rw [Nat.zero_add]; have := hflen (s.l.set n { e1 with live := true }) (by simp); omega) (by rw [Nat.zero_add]; have := flat_set3 (s.last + 1) _ n _ hs2; rw [List.set_set] at this; exact this)) rfl) rfl (WQ.nilS ?_)
        repeat (first | refine WR.seq ?_ | refine WR.block ?_ | refine WR.scope ?_ | refine WR.skip ?_ | refine WR.exit ?_ | refine WR.condT rfl ?_ | refine WR.condF rfl ?_ | refine WR.reg (WQ.runS [] 1000 _ _ _ _ rfl ?_) | refine WQ.nilS ?_ | refine WR.dreg hmix (DW.runS [] 1000 _ _ _ _ _ _ rfl ?_))
        have ih' := ih a2 ⟨s.l.set n { e1 with live := true, last := s.last + 1 }, a2, s.last + 1⟩ (by omega) (by omega) (by simp; omega) (by simp only; omega) rfl hx hr
        refine WIr.again (WLr.weak ?_ ih')
        obtain ⟨q1, q2, q3⟩ := hset { e1 with live := true, last := s.last + 1 }
        simp only [dTm, q1, q2, q3]
        refine SW.tellR ?_ ?_
        ·repeat (first | exact .nil | refine .cons rfl (.v (VLe.refl _)) ?_ | refine .cons rfl (.l _ _ rfl) ?_ | refine .cons rfl (.v (VLe.unk _ _)) ?_)
        ·repeat (first | exact .nil | refine .cons rfl (.inl rfl) ?_)
       ·have hadd : addF s ⟨kind, [], [], n, a2⟩ = none := by simp only [addF, if_neg hk1, hq, if_neg hlive]
        simp only [scanD, hk, hrec, hadd] at hr
        refine WQ.runS [] 1000 _ _ _ _ rfl (WQ.nilS ?_)
        rw [show (!(e1.live == decide ((kind : Int) = 3))) = true from by
         rw [show decide ((kind : Int) = 3) = decide (kind = 3) from by simp only [decide_eq_decide]; omega]
         cases hz : (e1.live == decide (kind = 3)) with
         | false => rfl
         | true => exact absurd (by simpa using hz) hlive]
        repeat (first | refine WR.seq ?_ | refine WR.block ?_ | refine WR.scope ?_ | refine WR.skip ?_ | refine WR.exit ?_ | refine WR.condT rfl ?_ | refine WR.condF rfl ?_ | refine WR.reg (WQ.runS [] 1000 _ _ _ _ rfl ?_) | refine WQ.nilS ?_ | refine WR.dreg hmix (DW.runS [] 1000 _ _ _ _ _ _ rfl ?_))
        rw [← hrow]
        exact WR.ret (hr _ _ _ _ rfl (by rw [hgood]; rfl))
     ·rw [show decide ((kind : Int) = 2) = false from decide_eq_false (by omega)]
      refine WQ.runS [] 3 _ _ _ _ rfl ?_
      by_cases hk3 : kind = 3
      ·rw [if_neg (by simp [hk3])] at hrec
       rw [show decide ((kind : Int) = 3) = true from decide_eq_true (by omega)]
       refine WQ.runS [] 5 _ _ _ _ rfl ?_
       cases hq : s.l[n]? with
       | none =>
        have hge : s.l.length ≤ n := List.getElem?_eq_none_iff.1 hq
        have hadd : addF s ⟨kind, [], [], n, a2⟩ = none := by simp [addF, hk1, hq]
        simp only [scanD, hk, hrec, hadd] at hr
        refine WQ.lightS rfl rfl rfl (lenD (l := s.l) rfl) rfl (WQ.runS [] 1 _ _ _ _ rfl ?_)
        rw [show decide ((n : Int) ≥ (s.l.length : Int)) = true from decide_eq_true (by omega)]
        refine WQ.runS [] 1000 _ _ _ _ rfl (WQ.nilS ?_)
        repeat (first | refine WR.seq ?_ | refine WR.block ?_ | refine WR.scope ?_ | refine WR.skip ?_ | refine WR.exit ?_ | refine WR.condT rfl ?_ | refine WR.condF rfl ?_ | refine WR.reg (WQ.runS [] 1000 _ _ _ _ rfl ?_) | refine WQ.nilS ?_ | refine WR.dreg hmix (DW.runS [] 1000 _ _ _ _ _ _ rfl ?_))
        exact WR.ret (hr _ _ _ _ rfl (by rw [hgood]; rfl))
       | some e1 =>
        obtain ⟨N, hN, hlv, hrow, hset⟩ := lvD_some hq
        have hlt2 : n < s.l.length := (List.getElem?_eq_some_iff.1 hq).1
        have hp : ∀ a4 w4, keysLt (preD b a4 w4) N := fun _ _ => preD_lt hN
        have hN2 : glim ≤ N := by show 1000 ≤ N; omega
        rw [hrow]
        refine WQ.lightS rfl rfl rfl (lenD (l := s.l) rfl) rfl (WQ.runS [] 1 _ _ _ _ rfl ?_)
        rw [show decide ((n : Int) ≥ (s.l.length : Int)) = false from decide_eq_false (by omega)]
        refine WQ.runS [] 4 _ _ _ _ rfl ?_
        refine WQ.lightS rfl rfl rfl (rowIa (congrArg some hlv) rfl hlt2) rfl (WQ.runS [] 1 _ _ _ _ rfl ?_)
        refine WQ.lightS rfl rfl rfl (rowLd (p := preD b a2 false) (hp _ _) rfl (v := .bool e1.live) (by rw [Nat.zero_add]; exact flat_get2 _ _ _ hq)) rfl ?_
        by_cases hlive : e1.live = decide (kind = 3)
        ·have hadd : addF s ⟨kind, [], [], n, a2⟩ = some ⟨s.l.set n { e1 with live := true, last := s.last + 1 }, a2, s.last + 1⟩ := by simp only [addF, if_neg hk1, hq, if_pos hlive]
         simp only [scanD, hk, hrec, hadd] at hx hr
         refine WQ.runS [] 1000 _ _ _ _ rfl (WQ.nilS ?_)
         rw [show (!(e1.live == decide ((kind : Int) = 3))) = false from by rw [show decide ((kind : Int) = 3) = decide (kind = 3) from by simp only [decide_eq_decide]; omega, hlive]; simp]
         refine WR.condF rfl (WR.skip ?_)
         refine WR.seq (WR.reg (WQ.runS [] 1000 _ _ _ _ rfl (WQ.nilS ?_)))
         rw [show IntKind.i64.wrap ((s.last : Int) + 1) = ((s.last + 1 : Nat) : Int) from by rw [wrap64 (by omega) (by omega)]; rfl]
         have hflen : ∀ m : List Ent, m.length = s.l.length → n * 4 + 3 < (flat m).length := fun m hm => by rw [flat_len4, hm]; omega
         have hs2 : (s.l.set n { e1 with live := true })[n]? = some { e1 with live := true } := by rw [List.getElem?_set]; simp [hlt2]
         refine WR.seq (WR.reg (WQ.runS [] 2 _ _ _ _ rfl ?_))
         refine WQ.lightS rfl rfl rfl (rowIa (congrArg some hlv) rfl hlt2) rfl (WQ.runS [] 1 _ _ _ _ rfl ?_)
         refine WQ.doesS rfl (DoesR.store (rowSt (p := preD b a2 false) (cs' := flat (s.l.set n { e1 with live := true })) (hp _ _) hN2 rfl rfl rfl (by rw [Nat.zero_add]; have := hflen s.l rfl; omega) (by rw [Nat.zero_add]; exact flat_set2 true s.l n e1 hq)) rfl) rfl (WQ.nilS ?_)
         refine WR.seq (WR.reg (WQ.runS [] 3 _ _ _ _ rfl ?_))
         refine WQ.lightS rfl rfl rfl (rowIa (congrArg some hlv) rfl hlt2) rfl (WQ.runS [] 1 _ _ _ _ rfl ?_)
         refine WQ.doesS rfl (DoesR.store (rowSt (p := preD b a2 false) (cs' := flat (s.l.set n { e1 with live := true, last := s.last + 1 })) (hp _ _) hN2 rfl rfl rfl (by rw [Nat.zero_add]; have := hflen (s.l.set n { e1 with live := true }) (by simp); omega) (by rw [Nat.zero_add]; have := flat_set3 (s.last + 1) _ n _ hs2; rw [List.set_set] at this; exact this)) rfl) rfl (WQ.nilS ?_)
         repeat (first | refine WR.seq ?_ | refine WR.block ?_ | refine WR.scope ?_ | refine WR.skip ?_ | refine WR.exit ?_ | refine WR.condT rfl ?_ | refine WR.condF rfl ?_ | refine WR.reg (WQ.runS [] 1000 _ _ _ _ rfl ?_) | refine WQ.nilS ?_ | refine WR.dreg hmix (DW.runS [] 1000 _ _ _ _ _ _ rfl ?_))
         have ih' := ih a2 ⟨s.l.set n { e1 with live := true, last := s.last + 1 }, a2, s.last + 1⟩ (by omega) (by omega) (by simp; omega) (by simp only; omega) rfl hx hr
         refine WIr.again (WLr.weak ?_ ih')
         obtain ⟨q1, q2, q3⟩ := hset { e1 with live := true, last := s.last + 1 }
         simp only [dTm, q1, q2, q3]
         refine SW.tellR ?_ ?_
         ·repeat (first | exact .nil | refine .cons rfl (.v (VLe.refl _)) ?_ | refine .cons rfl (.l _ _ rfl) ?_ | refine .cons rfl (.v (VLe.unk _ _)) ?_)
         ·repeat (first | exact .nil | refine .cons rfl (.inl rfl) ?_)
        ·have hadd : addF s ⟨kind, [], [], n, a2⟩ = none := by simp only [addF, if_neg hk1, hq, if_neg hlive]
         simp only [scanD, hk, hrec, hadd] at hr
         refine WQ.runS [] 1000 _ _ _ _ rfl (WQ.nilS ?_)
         rw [show (!(e1.live == decide ((kind : Int) = 3))) = true from by
          rw [show decide ((kind : Int) = 3) = decide (kind = 3) from by simp only [decide_eq_decide]; omega]
          cases hz : (e1.live == decide (kind = 3)) with
          | false => rfl
          | true => exact absurd (by simpa using hz) hlive]
         repeat (first | refine WR.seq ?_ | refine WR.block ?_ | refine WR.scope ?_ | refine WR.skip ?_ | refine WR.exit ?_ | refine WR.condT rfl ?_ | refine WR.condF rfl ?_ | refine WR.reg (WQ.runS [] 1000 _ _ _ _ rfl ?_) | refine WQ.nilS ?_ | refine WR.dreg hmix (DW.runS [] 1000 _ _ _ _ _ _ rfl ?_))
         rw [← hrow]
         exact WR.ret (hr _ _ _ _ rfl (by rw [hgood]; rfl))
      ·rw [if_pos (Or.inr (by omega))] at hrec
       simp only [scanD, hk, hrec] at hr
       rw [show decide ((kind : Int) = 3) = false from decide_eq_false (by omega)]
       refine WQ.runS [] 1000 _ _ _ _ rfl (WQ.nilS ?_)
       repeat (first | refine WR.seq ?_ | refine WR.block ?_ | refine WR.scope ?_ | refine WR.skip ?_ | refine WR.exit ?_ | refine WR.condT rfl ?_ | refine WR.condF rfl ?_ | refine WR.reg (WQ.runS [] 1000 _ _ _ _ rfl ?_) | refine WQ.nilS ?_ | refine WR.dreg hmix (DW.runS [] 1000 _ _ _ _ _ _ rfl ?_))
       exact WR.ret (hr _ _ _ _ rfl (by rw [hgood]; rfl))
end Go.VM
