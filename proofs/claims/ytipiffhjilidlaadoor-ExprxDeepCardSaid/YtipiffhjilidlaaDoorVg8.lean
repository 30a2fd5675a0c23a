/- laid for this seat: VyI -/
import Derived.Test.YtipiffhjilidlaaDoorVg7
/- Expressions of a text: brackets that are deep: the law's text. -/
set_option maxRecDepth 100000
set_option linter.unusedVariables false
set_option linter.unusedSimpArgs false
namespace Go.VM
open Go.RowKit
def opS (k : Nat) : List Nat := match k with | 0 => [33] | 1 => [91] | _ => [40]
def shS (k : Nat) : List Nat := match k with | 0 => [] | 1 => [93] | _ => [41]
def deepT (k : Nat) : Nat → List Nat
 | 0 => [97]
 | n + 1 => match decide (opS k = [91]) with
  | true => ([97] ++ opS k ++ deepT k n) ++ shS k
  | false => (opS k ++ deepT k n) ++ shS k
theorem deepT_len (k : Nat) : ∀ n, (deepT k n).length ≤ 1 + 3 * n
 | 0 => Nat.le_refl _
 | n + 1 => by
  have ih := deepT_len k n
  have h1 : (opS k).length = 1 := by unfold opS; split <;> rfl
  have h2 : (shS k).length ≤ 1 := by unfold shS; split <;> decide
  simp only [deepT]
  split <;> simp only [List.length_append, List.length_cons, List.length_nil, h1] <;> omega
def dpTm (k n i : Nat) : TM := [(0, .v (.int .i64 n)), (5, .v (.bool true)), (6, .v (.str (opS k))), (7, .v (.str (shS k))), (8, .v (.str (deepT k i))), (9, .v (.int .i64 i))]
theorem deep_loop {QN : S → Prop} {QX : X → S → Prop} (k n : Nat) (hn : n < 70) (h0 : ∀ tm, TellT tm [] [(0, .v (.int .i64 n)), (5, .v (.bool true)), (8, .v (.str (deepT k n)))] → QX (.exit 0) (SL.toS ⟨tm, [], none, 1000, tOl, []⟩)) : ∀ (m i : Nat), i + m = n →
  WLr Go.Proofs.Tryd.prog [0] ⟨Go.Proofs.Tryd.f6.ntmps, none, 6⟩ rc6_L1 (SL.toS ⟨dpTm k n i, [], none, 1000, tOl, []⟩) QN QX := by
 intro m
 induction m with
 | zero =>
  intro i hi
  have hi : i = n := hi
  subst hi
  unfold rc6_L1
  refine WLr.of ?_
  repeat (refine WR.seq ?_)
  refine WR.reg (WQ.runS [] 3 _ _ _ _ rfl ?_)
  rw [show decide ((i : Int) < (i : Int)) = false from decide_eq_false (by omega)]
  refine WQ.runS [] 1000 _ _ _ _ rfl (WQ.nilS ?_)
  repeat (refine WR.seq ?_)
  refine WR.condF rfl (WR.exit (h0 _ ?_))
  repeat (first | exact .nil | refine .cons rfl (.v (VLe.refl _)) ?_)
 | succ m ih =>
  intro i hi
  have hl := deepT_len k i
  have h1 : (opS k).length = 1 := by unfold opS; split <;> rfl
  have h2 : (shS k).length ≤ 1 := by unfold shS; split <;> decide
  have ih' := ih (i + 1) (by omega)
  unfold dpTm at ih'
  simp only [deepT] at ih'
  unfold rc6_L1
  refine WLr.of ?_
  repeat (refine WR.seq ?_)
  refine WR.reg (WQ.runS [] 3 _ _ _ _ rfl ?_)
  rw [show decide ((i : Int) < (n : Int)) = true from decide_eq_true (by omega)]
  refine WQ.runS [] 1000 _ _ _ _ rfl (WQ.nilS ?_)
  repeat (refine WR.seq ?_)
  refine WR.condT rfl (WR.skip ?_)
  repeat (first | refine WR.seq ?_ | refine WR.block ?_)
  repeat (refine WR.seq ?_)
  refine WR.reg (WQ.runS [] 2 _ _ _ _ rfl ?_)
  cases hd : decide (opS k = [91]) with
  | true =>
   rw [hd] at ih'
   refine WQ.runS [] 1000 _ _ _ _ rfl (WQ.nilS ?_)
   refine WR.condT rfl ?_
   repeat (refine WR.seq ?_)
   refine WR.reg (WQ.runS [] 1 _ _ _ _ rfl ?_)
   refine WQ.lightS rfl rfl rfl (add_str rfl rfl (by simp [h1]; unfold lim; omega) _) rfl (WQ.runS [] 1 _ _ _ _ rfl ?_)
   refine WQ.lightS rfl rfl rfl (add_str rfl rfl (by simp [h1]; unfold lim; omega) _) rfl (WQ.runS [] 1 _ _ _ _ rfl ?_)
   refine WQ.lightS rfl rfl rfl (add_str rfl rfl (by simp [h1]; unfold lim; omega) _) rfl ?_
   refine WQ.runS [] 1000 _ _ _ _ rfl (WQ.nilS ?_)
   unfold rc6_J1
   repeat (refine WR.seq ?_)
   refine WR.reg (WQ.runS [] 2 _ _ _ _ rfl ?_)
   rw [nextB (by unfold big; omega)]
   refine WQ.runS [] 1000 _ _ _ _ rfl (WQ.nilS ?_)
   refine WIr.again (WLr.weak ?_ ih')
   refine SW.tellR ?_ ?_
   ·repeat (first | exact .nil | refine .cons rfl (.v (VLe.refl _)) ?_ | refine .cons rfl (.l _ _ rfl) ?_ | refine .cons rfl (.v (VLe.unk _ _)) ?_)
   ·repeat (first | exact .nil | refine .cons rfl (.inl rfl) ?_)
  | false =>
   rw [hd] at ih'
   refine WQ.runS [] 1000 _ _ _ _ rfl (WQ.nilS ?_)
   refine WR.condF rfl ?_
   repeat (refine WR.seq ?_)
   refine WR.reg (WQ.runS [] 2 _ _ _ _ rfl ?_)
   refine WQ.lightS rfl rfl rfl (add_str rfl rfl (by simp [h1]; unfold lim; omega) _) rfl (WQ.runS [] 1 _ _ _ _ rfl ?_)
   refine WQ.lightS rfl rfl rfl (add_str rfl rfl (by simp [h1]; unfold lim; omega) _) rfl ?_
   refine WQ.runS [] 1000 _ _ _ _ rfl (WQ.nilS ?_)
   unfold rc6_J1
   repeat (refine WR.seq ?_)
   refine WR.reg (WQ.runS [] 2 _ _ _ _ rfl ?_)
   rw [nextB (by unfold big; omega)]
   refine WQ.runS [] 1000 _ _ _ _ rfl (WQ.nilS ?_)
   refine WIr.again (WLr.weak ?_ ih')
   refine SW.tellR ?_ ?_
   ·repeat (first | exact .nil | refine .cons rfl (.v (VLe.refl _)) ?_ | refine .cons rfl (.l _ _ rfl) ?_ | refine .cons rfl (.v (VLe.unk _ _)) ?_)
   ·repeat (first | exact .nil | refine .cons rfl (.inl rfl) ?_)
end Go.VM
