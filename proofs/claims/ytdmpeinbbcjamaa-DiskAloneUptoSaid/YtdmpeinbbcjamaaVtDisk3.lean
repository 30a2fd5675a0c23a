/- The disk of the program and the document's: writing, and lists of writes. -/
import Derived.Test.YtdmpeinbbcjamaaVtDisk2
import Derived.Test.YtdmpeinbbcjamaaVmMore2
set_option maxRecDepth 100000
set_option linter.unusedVariables false
set_option linter.unusedSimpArgs false
namespace Go.VM
open Go.RowKit

theorem do_core (d : Dk) (k a : Int) (x : List Nat) (hws : d.ws.length ≤ 1000000) (hf : d.fuse < 9223372036854775808) (hl0 : d.a0.length + x.length ≤ lim) (hl1 : d.a1.length + x.length ≤ lim) :
    SCall Go.Proofs.Try.prog [] 14 [.ptr 1000 0, .agg [.int .i64 k, .int .i64 a, .str x]] none ⟨1002, og (dol d), []⟩ (.ret (.int .i64 (write d ⟨k, a, x⟩).2)) none ⟨1002, og (dol (write d ⟨k, a, x⟩).1), []⟩ := by
  refine SCall.listed (fn := Go.Proofs.Try.f14) (by kernel_rfl) res14 (by kernel_rfl) (by kernel_rfl) (Nat.le_refl _) rfl (dol_in _) trivial ?_
  unfold rc14
  repeat (first | refine WR.seq ?_ | refine WR.block ?_ | refine WR.scope ?_ | refine WR.skip ?_ | refine WR.exit ?_ | refine WR.condT rfl ?_ | refine WR.condF rfl ?_ | refine WR.reg (WQ.runS [] 1000 _ _ _ _ rfl ?_) | refine WQ.nilS ?_ | refine WR.dreg hmix (DW.runS [] 1000 _ _ _ _ _ _ rfl ?_))
  refine WR.cond rfl (fun h1 => ?_) (fun h1 => ?_)
  · have hw : write d ⟨k, a, x⟩ = (d, 180) := by simp [write, h1]
    rw [hw]
    repeat (first | refine WR.seq ?_ | refine WR.block ?_ | refine WR.scope ?_ | refine WR.skip ?_ | refine WR.exit ?_ | refine WR.condT rfl ?_ | refine WR.condF rfl ?_ | refine WR.reg (WQ.runS [] 1000 _ _ _ _ rfl ?_) | refine WQ.nilS ?_ | refine WR.dreg hmix (DW.runS [] 1000 _ _ _ _ _ _ rfl ?_))
    refine WR.ret ⟨rfl, rfl, ⟨_, rfl, VLe.refl _⟩, fun b _ => rfl⟩
  refine WR.skip ?_
  refine WR.seq ?_
  refine WR.seq ?_
  refine WR.reg (WQ.runS [] 4 _ _ _ _ rfl ?_)
  have key : ∀ b : Bool, b = true → (a < 0 ∨ a > 1) → write d ⟨k, a, x⟩ = (d, 181) := by
    intro b _ h2
    have : ¬ (a = 0 ∨ a = 1) := by omega
    simp [write, h1, this]
  refine WQ.guard 12 rfl (fun hb => ?_) (fun hb => ?_) <;> rw [hb]
  · have hb := of_decide_eq_true hb
    rw [key true rfl (.inl hb)]
    refine WQ.runS [] 1000 _ _ _ _ rfl (WQ.nilS ?_)
    repeat (first | refine WR.seq ?_ | refine WR.block ?_ | refine WR.scope ?_ | refine WR.skip ?_ | refine WR.exit ?_ | refine WR.condT rfl ?_ | refine WR.condF rfl ?_ | refine WR.reg (WQ.runS [] 1000 _ _ _ _ rfl ?_) | refine WQ.nilS ?_ | refine WR.dreg hmix (DW.runS [] 1000 _ _ _ _ _ _ rfl ?_))
    refine WR.ret ⟨rfl, rfl, ⟨_, rfl, VLe.refl _⟩, fun b _ => rfl⟩
  have hb := of_decide_eq_false hb
  refine WQ.runS [] 1000 _ _ _ _ rfl (WQ.nilS ?_)
  refine WR.cond rfl (fun h2 => ?_) (fun h2 => ?_)
  · have h2 := of_decide_eq_true h2
    rw [key true rfl (.inr h2)]
    repeat (first | refine WR.seq ?_ | refine WR.block ?_ | refine WR.scope ?_ | refine WR.skip ?_ | refine WR.exit ?_ | refine WR.condT rfl ?_ | refine WR.condF rfl ?_ | refine WR.reg (WQ.runS [] 1000 _ _ _ _ rfl ?_) | refine WQ.nilS ?_ | refine WR.dreg hmix (DW.runS [] 1000 _ _ _ _ _ _ rfl ?_))
    refine WR.ret ⟨rfl, rfl, ⟨_, rfl, VLe.refl _⟩, fun b _ => rfl⟩
  have h2 := of_decide_eq_false h2
  have ha : a = 0 ∨ a = 1 := by omega
  repeat (first | refine WR.seq ?_ | refine WR.block ?_ | refine WR.scope ?_ | refine WR.skip ?_ | refine WR.exit ?_ | refine WR.condT rfl ?_ | refine WR.condF rfl ?_ | refine WR.reg (WQ.runS [] 1000 _ _ _ _ rfl ?_) | refine WQ.nilS ?_ | refine WR.dreg hmix (DW.runS [] 1000 _ _ _ _ _ _ rfl ?_))
  refine WR.cond rfl (fun h3 => ?_) (fun h3 => ?_)
  · have hw : write d ⟨k, a, x⟩ = ({ d with off := true }, 180) := by
      simp [write, h1, ha, of_decide_eq_true h3]
    rw [hw]
    repeat (first | refine WR.seq ?_ | refine WR.block ?_ | refine WR.scope ?_ | refine WR.skip ?_ | refine WR.exit ?_ | refine WR.condT rfl ?_ | refine WR.condF rfl ?_ | refine WR.reg (WQ.runS [] 1000 _ _ _ _ rfl ?_) | refine WQ.nilS ?_ | refine WR.dreg hmix (DW.runS [] 1000 _ _ _ _ _ _ rfl ?_))
    refine WR.ret ⟨rfl, rfl, ⟨_, rfl, VLe.refl _⟩, fun b _ => rfl⟩
  repeat (first | refine WR.seq ?_ | refine WR.block ?_ | refine WR.scope ?_ | refine WR.skip ?_ | refine WR.exit ?_ | refine WR.condT rfl ?_ | refine WR.condF rfl ?_ | refine WR.reg (WQ.runS [] 1000 _ _ _ _ rfl ?_) | refine WQ.nilS ?_ | refine WR.dreg hmix (DW.runS [] 1000 _ _ _ _ _ _ rfl ?_))
  refine WR.cond rfl (fun h4 => ?_) (fun h4 => ?_)
  · have e4 : IntKind.i64.wrap (d.fuse - 1) = d.fuse - 1 := wrap64 (by omega) (by have := of_decide_eq_true h4; omega)
    have hw : write d ⟨k, a, x⟩ = done { d with fuse := d.fuse - 1 } ⟨k, a, x⟩ := by
      simp only [write, h1, ha, of_decide_eq_false h3, not_true, if_false, if_pos (of_decide_eq_true h4)]; rfl
    repeat (first | refine WR.seq ?_ | refine WR.block ?_ | refine WR.scope ?_ | refine WR.skip ?_ | refine WR.exit ?_ | refine WR.condT rfl ?_ | refine WR.condF rfl ?_ | refine WR.reg (WQ.runS [] 1000 _ _ _ _ rfl ?_) | refine WQ.nilS ?_ | refine WR.dreg hmix (DW.runS [] 1000 _ _ _ _ _ _ rfl ?_))
    rw [e4, hw]
    repeat (first | refine WR.seq ?_ | refine WR.block ?_ | refine WR.scope ?_ | refine WR.skip ?_ | refine WR.exit ?_ | refine WR.condT rfl ?_ | refine WR.condF rfl ?_ | refine WR.reg (WQ.runS [] 1000 _ _ _ _ rfl ?_) | refine WQ.nilS ?_ | refine WR.dreg hmix (DW.runS [] 1000 _ _ _ _ _ _ rfl ?_))
    refine WR.cond rfl (fun h5 => ?_) (fun h5 => ?_)
    · have h5 := of_decide_eq_true h5
      rcases ha with rfl | rfl
      · rw [show done _ (⟨k, 0, x⟩ : Wr) = _ from by simp only [done, if_pos h5]; rfl]
        refine WR.dreg hmix (DW.runS [] 12 _ _ _ _ _ _ rfl (DW.pureS rfl (fun h => add_str rfl rfl hl0 h) rfl (DW.runS [] 1000 _ _ _ _ _ _ rfl ?_)))
        refine DW.stS (by repeat (first | exact .nil | refine PendR.passM rfl ?_ | refine PendR.sameM rfl ?_ | refine PendR.lightM rfl ?_)) rfl rfl rfl rfl ?_
        refine DW.runS [] 1000 _ _ _ _ _ _ rfl (DW.finS (by repeat (first | exact .nil | refine PendR.passM rfl ?_ | refine PendR.sameM rfl ?_ | refine PendR.lightM rfl ?_)) ?_)
        repeat (first | refine WR.seq ?_ | refine WR.block ?_ | refine WR.scope ?_ | refine WR.skip ?_ | refine WR.exit ?_ | refine WR.condT rfl ?_ | refine WR.condF rfl ?_ | refine WR.reg (WQ.runS [] 1000 _ _ _ _ rfl ?_) | refine WQ.nilS ?_ | refine WR.dreg hmix (DW.runS [] 1000 _ _ _ _ _ _ rfl ?_))
        refine DW.doesS (by repeat (first | exact .nil | refine PendR.passM rfl ?_ | refine PendR.sameM rfl ?_ | refine PendR.lightM rfl ?_)) rfl (app_tkR (es2 := (d.ws ++ [(⟨k, 0, x⟩ : Wr)]).map encW) (n2 := (d.ws ++ [(⟨k, 0, x⟩ : Wr)]).length) rfl rfl rfl (List.length_map ..).symm ?_ ?_ ?_ rfl ?_ ?_ rfl) rfl (DW.runS [] 1000 _ _ _ _ _ _ rfl ?_)
        · simp [encW]
        · simp
        · simp; unfold lim; omega
        · simp [encW, V.clean1]
        · simp
        refine DW.stS (by repeat (first | exact .nil | refine PendR.passM rfl ?_ | refine PendR.sameM rfl ?_ | refine PendR.lightM rfl ?_)) rfl rfl rfl rfl ?_
        refine DW.runS [] 1000 _ _ _ _ _ _ rfl (DW.finS (by repeat (first | exact .nil | refine PendR.passM rfl ?_ | refine PendR.sameM rfl ?_ | refine PendR.lightM rfl ?_)) ?_)
        repeat (first | refine WR.seq ?_ | refine WR.block ?_ | refine WR.scope ?_ | refine WR.skip ?_ | refine WR.exit ?_ | refine WR.condT rfl ?_ | refine WR.condF rfl ?_ | refine WR.reg (WQ.runS [] 1000 _ _ _ _ rfl ?_) | refine WQ.nilS ?_ | refine WR.dreg hmix (DW.runS [] 1000 _ _ _ _ _ _ rfl ?_))
        refine WR.ret ⟨rfl, rfl, ⟨_, rfl, VLe.refl _⟩, fun b _ => rfl⟩
      · rw [show done _ (⟨k, 1, x⟩ : Wr) = _ from by simp only [done, if_pos h5]; rfl]
        refine WR.dreg hmix (DW.runS [] 12 _ _ _ _ _ _ rfl (DW.pureS rfl (fun h => add_str rfl rfl hl1 h) rfl (DW.runS [] 1000 _ _ _ _ _ _ rfl ?_)))
        refine DW.stS (by repeat (first | exact .nil | refine PendR.passM rfl ?_ | refine PendR.sameM rfl ?_ | refine PendR.lightM rfl ?_)) rfl rfl rfl rfl ?_
        refine DW.runS [] 1000 _ _ _ _ _ _ rfl (DW.finS (by repeat (first | exact .nil | refine PendR.passM rfl ?_ | refine PendR.sameM rfl ?_ | refine PendR.lightM rfl ?_)) ?_)
        repeat (first | refine WR.seq ?_ | refine WR.block ?_ | refine WR.scope ?_ | refine WR.skip ?_ | refine WR.exit ?_ | refine WR.condT rfl ?_ | refine WR.condF rfl ?_ | refine WR.reg (WQ.runS [] 1000 _ _ _ _ rfl ?_) | refine WQ.nilS ?_ | refine WR.dreg hmix (DW.runS [] 1000 _ _ _ _ _ _ rfl ?_))
        refine DW.doesS (by repeat (first | exact .nil | refine PendR.passM rfl ?_ | refine PendR.sameM rfl ?_ | refine PendR.lightM rfl ?_)) rfl (app_tkR (es2 := (d.ws ++ [(⟨k, 1, x⟩ : Wr)]).map encW) (n2 := (d.ws ++ [(⟨k, 1, x⟩ : Wr)]).length) rfl rfl rfl (List.length_map ..).symm ?_ ?_ ?_ rfl ?_ ?_ rfl) rfl (DW.runS [] 1000 _ _ _ _ _ _ rfl ?_)
        · simp [encW]
        · simp
        · simp; unfold lim; omega
        · simp [encW, V.clean1]
        · simp
        refine DW.stS (by repeat (first | exact .nil | refine PendR.passM rfl ?_ | refine PendR.sameM rfl ?_ | refine PendR.lightM rfl ?_)) rfl rfl rfl rfl ?_
        refine DW.runS [] 1000 _ _ _ _ _ _ rfl (DW.finS (by repeat (first | exact .nil | refine PendR.passM rfl ?_ | refine PendR.sameM rfl ?_ | refine PendR.lightM rfl ?_)) ?_)
        repeat (first | refine WR.seq ?_ | refine WR.block ?_ | refine WR.scope ?_ | refine WR.skip ?_ | refine WR.exit ?_ | refine WR.condT rfl ?_ | refine WR.condF rfl ?_ | refine WR.reg (WQ.runS [] 1000 _ _ _ _ rfl ?_) | refine WQ.nilS ?_ | refine WR.dreg hmix (DW.runS [] 1000 _ _ _ _ _ _ rfl ?_))
        refine WR.ret ⟨rfl, rfl, ⟨_, rfl, VLe.refl _⟩, fun b _ => rfl⟩
    · have h5 := of_decide_eq_false h5
      repeat (first | refine WR.seq ?_ | refine WR.block ?_ | refine WR.scope ?_ | refine WR.skip ?_ | refine WR.exit ?_ | refine WR.condT rfl ?_ | refine WR.condF rfl ?_ | refine WR.reg (WQ.runS [] 1000 _ _ _ _ rfl ?_) | refine WQ.nilS ?_ | refine WR.dreg hmix (DW.runS [] 1000 _ _ _ _ _ _ rfl ?_))
      refine WR.cond rfl (fun h6 => ?_) (fun h6 => ?_)
      · have h6 := of_decide_eq_true h6
        rcases ha with rfl | rfl
        · rw [show done _ (⟨k, 0, x⟩ : Wr) = _ from by simp only [done, if_neg h5, if_pos h6]; rfl]
          repeat (first | refine WR.seq ?_ | refine WR.block ?_ | refine WR.scope ?_ | refine WR.skip ?_ | refine WR.exit ?_ | refine WR.condT rfl ?_ | refine WR.condF rfl ?_ | refine WR.reg (WQ.runS [] 1000 _ _ _ _ rfl ?_) | refine WQ.nilS ?_ | refine WR.dreg hmix (DW.runS [] 1000 _ _ _ _ _ _ rfl ?_))
          refine DW.stS (by repeat (first | exact .nil | refine PendR.passM rfl ?_ | refine PendR.sameM rfl ?_ | refine PendR.lightM rfl ?_)) rfl rfl rfl rfl ?_
          refine DW.runS [] 1000 _ _ _ _ _ _ rfl (DW.finS (by repeat (first | exact .nil | refine PendR.passM rfl ?_ | refine PendR.sameM rfl ?_ | refine PendR.lightM rfl ?_)) ?_)
          repeat (first | refine WR.seq ?_ | refine WR.block ?_ | refine WR.scope ?_ | refine WR.skip ?_ | refine WR.exit ?_ | refine WR.condT rfl ?_ | refine WR.condF rfl ?_ | refine WR.reg (WQ.runS [] 1000 _ _ _ _ rfl ?_) | refine WQ.nilS ?_ | refine WR.dreg hmix (DW.runS [] 1000 _ _ _ _ _ _ rfl ?_))
          refine DW.doesS (by repeat (first | exact .nil | refine PendR.passM rfl ?_ | refine PendR.sameM rfl ?_ | refine PendR.lightM rfl ?_)) rfl (app_tkR (es2 := (d.ws ++ [(⟨k, 0, x⟩ : Wr)]).map encW) (n2 := (d.ws ++ [(⟨k, 0, x⟩ : Wr)]).length) rfl rfl rfl (List.length_map ..).symm ?_ ?_ ?_ rfl ?_ ?_ rfl) rfl (DW.runS [] 1000 _ _ _ _ _ _ rfl ?_)
          · simp [encW]
          · simp
          · simp; unfold lim; omega
          · simp [encW, V.clean1]
          · simp
          refine DW.stS (by repeat (first | exact .nil | refine PendR.passM rfl ?_ | refine PendR.sameM rfl ?_ | refine PendR.lightM rfl ?_)) rfl rfl rfl rfl ?_
          refine DW.runS [] 1000 _ _ _ _ _ _ rfl (DW.finS (by repeat (first | exact .nil | refine PendR.passM rfl ?_ | refine PendR.sameM rfl ?_ | refine PendR.lightM rfl ?_)) ?_)
          repeat (first | refine WR.seq ?_ | refine WR.block ?_ | refine WR.scope ?_ | refine WR.skip ?_ | refine WR.exit ?_ | refine WR.condT rfl ?_ | refine WR.condF rfl ?_ | refine WR.reg (WQ.runS [] 1000 _ _ _ _ rfl ?_) | refine WQ.nilS ?_ | refine WR.dreg hmix (DW.runS [] 1000 _ _ _ _ _ _ rfl ?_))
          refine WR.ret ⟨rfl, rfl, ⟨_, rfl, VLe.refl _⟩, fun b _ => rfl⟩
        · rw [show done _ (⟨k, 1, x⟩ : Wr) = _ from by simp only [done, if_neg h5, if_pos h6]; rfl]
          repeat (first | refine WR.seq ?_ | refine WR.block ?_ | refine WR.scope ?_ | refine WR.skip ?_ | refine WR.exit ?_ | refine WR.condT rfl ?_ | refine WR.condF rfl ?_ | refine WR.reg (WQ.runS [] 1000 _ _ _ _ rfl ?_) | refine WQ.nilS ?_ | refine WR.dreg hmix (DW.runS [] 1000 _ _ _ _ _ _ rfl ?_))
          refine DW.stS (by repeat (first | exact .nil | refine PendR.passM rfl ?_ | refine PendR.sameM rfl ?_ | refine PendR.lightM rfl ?_)) rfl rfl rfl rfl ?_
          refine DW.runS [] 1000 _ _ _ _ _ _ rfl (DW.finS (by repeat (first | exact .nil | refine PendR.passM rfl ?_ | refine PendR.sameM rfl ?_ | refine PendR.lightM rfl ?_)) ?_)
          repeat (first | refine WR.seq ?_ | refine WR.block ?_ | refine WR.scope ?_ | refine WR.skip ?_ | refine WR.exit ?_ | refine WR.condT rfl ?_ | refine WR.condF rfl ?_ | refine WR.reg (WQ.runS [] 1000 _ _ _ _ rfl ?_) | refine WQ.nilS ?_ | refine WR.dreg hmix (DW.runS [] 1000 _ _ _ _ _ _ rfl ?_))
          refine DW.doesS (by repeat (first | exact .nil | refine PendR.passM rfl ?_ | refine PendR.sameM rfl ?_ | refine PendR.lightM rfl ?_)) rfl (app_tkR (es2 := (d.ws ++ [(⟨k, 1, x⟩ : Wr)]).map encW) (n2 := (d.ws ++ [(⟨k, 1, x⟩ : Wr)]).length) rfl rfl rfl (List.length_map ..).symm ?_ ?_ ?_ rfl ?_ ?_ rfl) rfl (DW.runS [] 1000 _ _ _ _ _ _ rfl ?_)
          · simp [encW]
          · simp
          · simp; unfold lim; omega
          · simp [encW, V.clean1]
          · simp
          refine DW.stS (by repeat (first | exact .nil | refine PendR.passM rfl ?_ | refine PendR.sameM rfl ?_ | refine PendR.lightM rfl ?_)) rfl rfl rfl rfl ?_
          refine DW.runS [] 1000 _ _ _ _ _ _ rfl (DW.finS (by repeat (first | exact .nil | refine PendR.passM rfl ?_ | refine PendR.sameM rfl ?_ | refine PendR.lightM rfl ?_)) ?_)
          repeat (first | refine WR.seq ?_ | refine WR.block ?_ | refine WR.scope ?_ | refine WR.skip ?_ | refine WR.exit ?_ | refine WR.condT rfl ?_ | refine WR.condF rfl ?_ | refine WR.reg (WQ.runS [] 1000 _ _ _ _ rfl ?_) | refine WQ.nilS ?_ | refine WR.dreg hmix (DW.runS [] 1000 _ _ _ _ _ _ rfl ?_))
          refine WR.ret ⟨rfl, rfl, ⟨_, rfl, VLe.refl _⟩, fun b _ => rfl⟩
      · have h6 := of_decide_eq_false h6
        rw [show done _ (⟨k, a, x⟩ : Wr) = _ from by simp only [done, if_neg h5, if_neg h6]; rfl]
        repeat (first | refine WR.seq ?_ | refine WR.block ?_ | refine WR.scope ?_ | refine WR.skip ?_ | refine WR.exit ?_ | refine WR.condT rfl ?_ | refine WR.condF rfl ?_ | refine WR.reg (WQ.runS [] 1000 _ _ _ _ rfl ?_) | refine WQ.nilS ?_ | refine WR.dreg hmix (DW.runS [] 1000 _ _ _ _ _ _ rfl ?_))
        refine DW.doesS (by repeat (first | exact .nil | refine PendR.passM rfl ?_ | refine PendR.sameM rfl ?_ | refine PendR.lightM rfl ?_)) rfl (app_tkR (es2 := (d.ws ++ [(⟨k, a, x⟩ : Wr)]).map encW) (n2 := (d.ws ++ [(⟨k, a, x⟩ : Wr)]).length) rfl rfl rfl (List.length_map ..).symm ?_ ?_ ?_ rfl ?_ ?_ rfl) rfl (DW.runS [] 1000 _ _ _ _ _ _ rfl ?_)
        · simp [encW]
        · simp
        · simp; unfold lim; omega
        · simp [encW, V.clean1]
        · simp
        refine DW.stS (by repeat (first | exact .nil | refine PendR.passM rfl ?_ | refine PendR.sameM rfl ?_ | refine PendR.lightM rfl ?_)) rfl rfl rfl rfl ?_
        refine DW.runS [] 1000 _ _ _ _ _ _ rfl (DW.finS (by repeat (first | exact .nil | refine PendR.passM rfl ?_ | refine PendR.sameM rfl ?_ | refine PendR.lightM rfl ?_)) ?_)
        repeat (first | refine WR.seq ?_ | refine WR.block ?_ | refine WR.scope ?_ | refine WR.skip ?_ | refine WR.exit ?_ | refine WR.condT rfl ?_ | refine WR.condF rfl ?_ | refine WR.reg (WQ.runS [] 1000 _ _ _ _ rfl ?_) | refine WQ.nilS ?_ | refine WR.dreg hmix (DW.runS [] 1000 _ _ _ _ _ _ rfl ?_))
        refine WR.ret ⟨rfl, rfl, ⟨_, rfl, VLe.refl _⟩, fun b _ => rfl⟩
  · have hw : write d ⟨k, a, x⟩ = done d ⟨k, a, x⟩ := by
      simp only [write, h1, ha, of_decide_eq_false h3, not_true, if_false, if_neg (of_decide_eq_false h4)]; rfl
    rw [hw]
    refine WR.skip ?_
    repeat (first | refine WR.seq ?_ | refine WR.block ?_ | refine WR.scope ?_ | refine WR.skip ?_ | refine WR.exit ?_ | refine WR.condT rfl ?_ | refine WR.condF rfl ?_ | refine WR.reg (WQ.runS [] 1000 _ _ _ _ rfl ?_) | refine WQ.nilS ?_ | refine WR.dreg hmix (DW.runS [] 1000 _ _ _ _ _ _ rfl ?_))
    refine WR.cond rfl (fun h5 => ?_) (fun h5 => ?_)
    · have h5 := of_decide_eq_true h5
      rcases ha with rfl | rfl
      · rw [show done _ (⟨k, 0, x⟩ : Wr) = _ from by simp only [done, if_pos h5]; rfl]
        refine WR.dreg hmix (DW.runS [] 12 _ _ _ _ _ _ rfl (DW.pureS rfl (fun h => add_str rfl rfl hl0 h) rfl (DW.runS [] 1000 _ _ _ _ _ _ rfl ?_)))
        refine DW.stS (by repeat (first | exact .nil | refine PendR.passM rfl ?_ | refine PendR.sameM rfl ?_ | refine PendR.lightM rfl ?_)) rfl rfl rfl rfl ?_
        refine DW.runS [] 1000 _ _ _ _ _ _ rfl (DW.finS (by repeat (first | exact .nil | refine PendR.passM rfl ?_ | refine PendR.sameM rfl ?_ | refine PendR.lightM rfl ?_)) ?_)
        repeat (first | refine WR.seq ?_ | refine WR.block ?_ | refine WR.scope ?_ | refine WR.skip ?_ | refine WR.exit ?_ | refine WR.condT rfl ?_ | refine WR.condF rfl ?_ | refine WR.reg (WQ.runS [] 1000 _ _ _ _ rfl ?_) | refine WQ.nilS ?_ | refine WR.dreg hmix (DW.runS [] 1000 _ _ _ _ _ _ rfl ?_))
        refine DW.doesS (by repeat (first | exact .nil | refine PendR.passM rfl ?_ | refine PendR.sameM rfl ?_ | refine PendR.lightM rfl ?_)) rfl (app_tkR (es2 := (d.ws ++ [(⟨k, 0, x⟩ : Wr)]).map encW) (n2 := (d.ws ++ [(⟨k, 0, x⟩ : Wr)]).length) rfl rfl rfl (List.length_map ..).symm ?_ ?_ ?_ rfl ?_ ?_ rfl) rfl (DW.runS [] 1000 _ _ _ _ _ _ rfl ?_)
        · simp [encW]
        · simp
        · simp; unfold lim; omega
        · simp [encW, V.clean1]
        · simp
        refine DW.stS (by repeat (first | exact .nil | refine PendR.passM rfl ?_ | refine PendR.sameM rfl ?_ | refine PendR.lightM rfl ?_)) rfl rfl rfl rfl ?_
        refine DW.runS [] 1000 _ _ _ _ _ _ rfl (DW.finS (by repeat (first | exact .nil | refine PendR.passM rfl ?_ | refine PendR.sameM rfl ?_ | refine PendR.lightM rfl ?_)) ?_)
        repeat (first | refine WR.seq ?_ | refine WR.block ?_ | refine WR.scope ?_ | refine WR.skip ?_ | refine WR.exit ?_ | refine WR.condT rfl ?_ | refine WR.condF rfl ?_ | refine WR.reg (WQ.runS [] 1000 _ _ _ _ rfl ?_) | refine WQ.nilS ?_ | refine WR.dreg hmix (DW.runS [] 1000 _ _ _ _ _ _ rfl ?_))
        refine WR.ret ⟨rfl, rfl, ⟨_, rfl, VLe.refl _⟩, fun b _ => rfl⟩
      · rw [show done _ (⟨k, 1, x⟩ : Wr) = _ from by simp only [done, if_pos h5]; rfl]
        refine WR.dreg hmix (DW.runS [] 12 _ _ _ _ _ _ rfl (DW.pureS rfl (fun h => add_str rfl rfl hl1 h) rfl (DW.runS [] 1000 _ _ _ _ _ _ rfl ?_)))
        refine DW.stS (by repeat (first | exact .nil | refine PendR.passM rfl ?_ | refine PendR.sameM rfl ?_ | refine PendR.lightM rfl ?_)) rfl rfl rfl rfl ?_
        refine DW.runS [] 1000 _ _ _ _ _ _ rfl (DW.finS (by repeat (first | exact .nil | refine PendR.passM rfl ?_ | refine PendR.sameM rfl ?_ | refine PendR.lightM rfl ?_)) ?_)
        repeat (first | refine WR.seq ?_ | refine WR.block ?_ | refine WR.scope ?_ | refine WR.skip ?_ | refine WR.exit ?_ | refine WR.condT rfl ?_ | refine WR.condF rfl ?_ | refine WR.reg (WQ.runS [] 1000 _ _ _ _ rfl ?_) | refine WQ.nilS ?_ | refine WR.dreg hmix (DW.runS [] 1000 _ _ _ _ _ _ rfl ?_))
        refine DW.doesS (by repeat (first | exact .nil | refine PendR.passM rfl ?_ | refine PendR.sameM rfl ?_ | refine PendR.lightM rfl ?_)) rfl (app_tkR (es2 := (d.ws ++ [(⟨k, 1, x⟩ : Wr)]).map encW) (n2 := (d.ws ++ [(⟨k, 1, x⟩ : Wr)]).length) rfl rfl rfl (List.length_map ..).symm ?_ ?_ ?_ rfl ?_ ?_ rfl) rfl (DW.runS [] 1000 _ _ _ _ _ _ rfl ?_)
        · simp [encW]
        · simp
        · simp; unfold lim; omega
        · simp [encW, V.clean1]
        · simp
        refine DW.stS (by repeat (first | exact .nil | refine PendR.passM rfl ?_ | refine PendR.sameM rfl ?_ | refine PendR.lightM rfl ?_)) rfl rfl rfl rfl ?_
        refine DW.runS [] 1000 _ _ _ _ _ _ rfl (DW.finS (by repeat (first | exact .nil | refine PendR.passM rfl ?_ | refine PendR.sameM rfl ?_ | refine PendR.lightM rfl ?_)) ?_)
        repeat (first | refine WR.seq ?_ | refine WR.block ?_ | refine WR.scope ?_ | refine WR.skip ?_ | refine WR.exit ?_ | refine WR.condT rfl ?_ | refine WR.condF rfl ?_ | refine WR.reg (WQ.runS [] 1000 _ _ _ _ rfl ?_) | refine WQ.nilS ?_ | refine WR.dreg hmix (DW.runS [] 1000 _ _ _ _ _ _ rfl ?_))
        refine WR.ret ⟨rfl, rfl, ⟨_, rfl, VLe.refl _⟩, fun b _ => rfl⟩
    · have h5 := of_decide_eq_false h5
      repeat (first | refine WR.seq ?_ | refine WR.block ?_ | refine WR.scope ?_ | refine WR.skip ?_ | refine WR.exit ?_ | refine WR.condT rfl ?_ | refine WR.condF rfl ?_ | refine WR.reg (WQ.runS [] 1000 _ _ _ _ rfl ?_) | refine WQ.nilS ?_ | refine WR.dreg hmix (DW.runS [] 1000 _ _ _ _ _ _ rfl ?_))
      refine WR.cond rfl (fun h6 => ?_) (fun h6 => ?_)
      · have h6 := of_decide_eq_true h6
        rcases ha with rfl | rfl
        · rw [show done _ (⟨k, 0, x⟩ : Wr) = _ from by simp only [done, if_neg h5, if_pos h6]; rfl]
          repeat (first | refine WR.seq ?_ | refine WR.block ?_ | refine WR.scope ?_ | refine WR.skip ?_ | refine WR.exit ?_ | refine WR.condT rfl ?_ | refine WR.condF rfl ?_ | refine WR.reg (WQ.runS [] 1000 _ _ _ _ rfl ?_) | refine WQ.nilS ?_ | refine WR.dreg hmix (DW.runS [] 1000 _ _ _ _ _ _ rfl ?_))
          refine DW.stS (by repeat (first | exact .nil | refine PendR.passM rfl ?_ | refine PendR.sameM rfl ?_ | refine PendR.lightM rfl ?_)) rfl rfl rfl rfl ?_
          refine DW.runS [] 1000 _ _ _ _ _ _ rfl (DW.finS (by repeat (first | exact .nil | refine PendR.passM rfl ?_ | refine PendR.sameM rfl ?_ | refine PendR.lightM rfl ?_)) ?_)
          repeat (first | refine WR.seq ?_ | refine WR.block ?_ | refine WR.scope ?_ | refine WR.skip ?_ | refine WR.exit ?_ | refine WR.condT rfl ?_ | refine WR.condF rfl ?_ | refine WR.reg (WQ.runS [] 1000 _ _ _ _ rfl ?_) | refine WQ.nilS ?_ | refine WR.dreg hmix (DW.runS [] 1000 _ _ _ _ _ _ rfl ?_))
          refine DW.doesS (by repeat (first | exact .nil | refine PendR.passM rfl ?_ | refine PendR.sameM rfl ?_ | refine PendR.lightM rfl ?_)) rfl (app_tkR (es2 := (d.ws ++ [(⟨k, 0, x⟩ : Wr)]).map encW) (n2 := (d.ws ++ [(⟨k, 0, x⟩ : Wr)]).length) rfl rfl rfl (List.length_map ..).symm ?_ ?_ ?_ rfl ?_ ?_ rfl) rfl (DW.runS [] 1000 _ _ _ _ _ _ rfl ?_)
          · simp [encW]
          · simp
          · simp; unfold lim; omega
          · simp [encW, V.clean1]
          · simp
          refine DW.stS (by repeat (first | exact .nil | refine PendR.passM rfl ?_ | refine PendR.sameM rfl ?_ | refine PendR.lightM rfl ?_)) rfl rfl rfl rfl ?_
          refine DW.runS [] 1000 _ _ _ _ _ _ rfl (DW.finS (by repeat (first | exact .nil | refine PendR.passM rfl ?_ | refine PendR.sameM rfl ?_ | refine PendR.lightM rfl ?_)) ?_)
          repeat (first | refine WR.seq ?_ | refine WR.block ?_ | refine WR.scope ?_ | refine WR.skip ?_ | refine WR.exit ?_ | refine WR.condT rfl ?_ | refine WR.condF rfl ?_ | refine WR.reg (WQ.runS [] 1000 _ _ _ _ rfl ?_) | refine WQ.nilS ?_ | refine WR.dreg hmix (DW.runS [] 1000 _ _ _ _ _ _ rfl ?_))
          refine WR.ret ⟨rfl, rfl, ⟨_, rfl, VLe.refl _⟩, fun b _ => rfl⟩
        · rw [show done _ (⟨k, 1, x⟩ : Wr) = _ from by simp only [done, if_neg h5, if_pos h6]; rfl]
          repeat (first | refine WR.seq ?_ | refine WR.block ?_ | refine WR.scope ?_ | refine WR.skip ?_ | refine WR.exit ?_ | refine WR.condT rfl ?_ | refine WR.condF rfl ?_ | refine WR.reg (WQ.runS [] 1000 _ _ _ _ rfl ?_) | refine WQ.nilS ?_ | refine WR.dreg hmix (DW.runS [] 1000 _ _ _ _ _ _ rfl ?_))
          refine DW.stS (by repeat (first | exact .nil | refine PendR.passM rfl ?_ | refine PendR.sameM rfl ?_ | refine PendR.lightM rfl ?_)) rfl rfl rfl rfl ?_
          refine DW.runS [] 1000 _ _ _ _ _ _ rfl (DW.finS (by repeat (first | exact .nil | refine PendR.passM rfl ?_ | refine PendR.sameM rfl ?_ | refine PendR.lightM rfl ?_)) ?_)
          repeat (first | refine WR.seq ?_ | refine WR.block ?_ | refine WR.scope ?_ | refine WR.skip ?_ | refine WR.exit ?_ | refine WR.condT rfl ?_ | refine WR.condF rfl ?_ | refine WR.reg (WQ.runS [] 1000 _ _ _ _ rfl ?_) | refine WQ.nilS ?_ | refine WR.dreg hmix (DW.runS [] 1000 _ _ _ _ _ _ rfl ?_))
          refine DW.doesS (by repeat (first | exact .nil | refine PendR.passM rfl ?_ | refine PendR.sameM rfl ?_ | refine PendR.lightM rfl ?_)) rfl (app_tkR (es2 := (d.ws ++ [(⟨k, 1, x⟩ : Wr)]).map encW) (n2 := (d.ws ++ [(⟨k, 1, x⟩ : Wr)]).length) rfl rfl rfl (List.length_map ..).symm ?_ ?_ ?_ rfl ?_ ?_ rfl) rfl (DW.runS [] 1000 _ _ _ _ _ _ rfl ?_)
          · simp [encW]
          · simp
          · simp; unfold lim; omega
          · simp [encW, V.clean1]
          · simp
          refine DW.stS (by repeat (first | exact .nil | refine PendR.passM rfl ?_ | refine PendR.sameM rfl ?_ | refine PendR.lightM rfl ?_)) rfl rfl rfl rfl ?_
          refine DW.runS [] 1000 _ _ _ _ _ _ rfl (DW.finS (by repeat (first | exact .nil | refine PendR.passM rfl ?_ | refine PendR.sameM rfl ?_ | refine PendR.lightM rfl ?_)) ?_)
          repeat (first | refine WR.seq ?_ | refine WR.block ?_ | refine WR.scope ?_ | refine WR.skip ?_ | refine WR.exit ?_ | refine WR.condT rfl ?_ | refine WR.condF rfl ?_ | refine WR.reg (WQ.runS [] 1000 _ _ _ _ rfl ?_) | refine WQ.nilS ?_ | refine WR.dreg hmix (DW.runS [] 1000 _ _ _ _ _ _ rfl ?_))
          refine WR.ret ⟨rfl, rfl, ⟨_, rfl, VLe.refl _⟩, fun b _ => rfl⟩
      · have h6 := of_decide_eq_false h6
        rw [show done _ (⟨k, a, x⟩ : Wr) = _ from by simp only [done, if_neg h5, if_neg h6]; rfl]
        repeat (first | refine WR.seq ?_ | refine WR.block ?_ | refine WR.scope ?_ | refine WR.skip ?_ | refine WR.exit ?_ | refine WR.condT rfl ?_ | refine WR.condF rfl ?_ | refine WR.reg (WQ.runS [] 1000 _ _ _ _ rfl ?_) | refine WQ.nilS ?_ | refine WR.dreg hmix (DW.runS [] 1000 _ _ _ _ _ _ rfl ?_))
        refine DW.doesS (by repeat (first | exact .nil | refine PendR.passM rfl ?_ | refine PendR.sameM rfl ?_ | refine PendR.lightM rfl ?_)) rfl (app_tkR (es2 := (d.ws ++ [(⟨k, a, x⟩ : Wr)]).map encW) (n2 := (d.ws ++ [(⟨k, a, x⟩ : Wr)]).length) rfl rfl rfl (List.length_map ..).symm ?_ ?_ ?_ rfl ?_ ?_ rfl) rfl (DW.runS [] 1000 _ _ _ _ _ _ rfl ?_)
        · simp [encW]
        · simp
        · simp; unfold lim; omega
        · simp [encW, V.clean1]
        · simp
        refine DW.stS (by repeat (first | exact .nil | refine PendR.passM rfl ?_ | refine PendR.sameM rfl ?_ | refine PendR.lightM rfl ?_)) rfl rfl rfl rfl ?_
        refine DW.runS [] 1000 _ _ _ _ _ _ rfl (DW.finS (by repeat (first | exact .nil | refine PendR.passM rfl ?_ | refine PendR.sameM rfl ?_ | refine PendR.lightM rfl ?_)) ?_)
        repeat (first | refine WR.seq ?_ | refine WR.block ?_ | refine WR.scope ?_ | refine WR.skip ?_ | refine WR.exit ?_ | refine WR.condT rfl ?_ | refine WR.condF rfl ?_ | refine WR.reg (WQ.runS [] 1000 _ _ _ _ rfl ?_) | refine WQ.nilS ?_ | refine WR.dreg hmix (DW.runS [] 1000 _ _ _ _ _ _ rfl ?_))
        refine WR.ret ⟨rfl, rfl, ⟨_, rfl, VLe.refl _⟩, fun b _ => rfl⟩

/-- there is room for so many bytes more. -/
structure Fit (d : Dk) (n : Nat) : Prop where
  ws : d.ws.length ≤ 1000000
  fuse : d.fuse < 9223372036854775808
  a0 : d.a0.length + n ≤ lim
  a1 : d.a1.length + n ≤ lim

theorem encW_in (w : Wr) : Ins (· < glim) (encW w) := ⟨trivial, trivial, trivial, trivial⟩

theorem write_call {d : Dk} {k a : Int} {x : List Nat} (ft : Fit d x.length) {h : H} {b t : Nat} (hd' : HD h b t d) :
    SCall Go.Proofs.Try.prog [] 32 [.ptr b 0, .agg [.int .i64 k, .int .i64 a, .str x]] none h (.ret (.int .i64 (write d ⟨k, a, x⟩).2)) none (hd h b t (write d ⟨k, a, x⟩).1) :=
  disk_lift (write_core d k a x ft.ws ft.fuse ft.a0 ft.a1) ⟨encW_in ⟨k, a, x⟩, trivial⟩ trivial hd'

theorem do_call {d : Dk} {k a : Int} {x : List Nat} (ft : Fit d x.length) {h : H} {b t : Nat} (hd' : HD h b t d) :
    SCall Go.Proofs.Try.prog [] 14 [.ptr b 0, .agg [.int .i64 k, .int .i64 a, .str x]] none h (.ret (.int .i64 (write d ⟨k, a, x⟩).2)) none (hd h b t (write d ⟨k, a, x⟩).1) :=
  disk_lift (do_core d k a x ft.ws ft.fuse ft.a0 ft.a1) ⟨encW_in ⟨k, a, x⟩, trivial⟩ trivial hd'

theorem hd_core (d : Dk) {lc : LM} : HD ⟨1002, og (dol d), lc⟩ 1000 1001 d := ⟨by decide, by decide, by decide, rfl, rfl⟩

theorem append_core (d : Dk) (a : Int) (x : List Nat) (ft : Fit d x.length) :
    SCall Go.Proofs.Try.prog [] 25 [.ptr 1000 0, .int .i64 a, .str x] none ⟨1002, og (dol d), []⟩ (.ret (.int .i64 (write d ⟨1, a, x⟩).2)) none ⟨1002, og (dol (write d ⟨1, a, x⟩).1), []⟩ := by
  refine SCall.listed (fn := Go.Proofs.Try.f25) (by kernel_rfl) res25 (by kernel_rfl) (by kernel_rfl) (Nat.le_refl _) rfl (dol_in _) trivial ?_
  unfold rc25
  repeat (first | refine WR.seq ?_ | refine WR.block ?_ | refine WR.scope ?_ | refine WR.skip ?_ | refine WR.exit ?_ | refine WR.condT rfl ?_ | refine WR.condF rfl ?_ | refine WR.reg (WQ.runS [] 1000 _ _ _ _ rfl ?_) | refine WQ.nilS ?_ | refine WR.dreg hmix (DW.runS [] 1000 _ _ _ _ _ _ rfl ?_))
  refine WQ.callH rfl rfl rfl rfl rfl (write_call ft (hd_core d)) (.put (.put .base rfl) rfl) rfl (WQ.runS [] 1000 _ _ _ _ rfl ?_)
  repeat (first | refine WR.seq ?_ | refine WR.block ?_ | refine WR.scope ?_ | refine WR.skip ?_ | refine WR.exit ?_ | refine WR.condT rfl ?_ | refine WR.condF rfl ?_ | refine WR.reg (WQ.runS [] 1000 _ _ _ _ rfl ?_) | refine WQ.nilS ?_ | refine WR.dreg hmix (DW.runS [] 1000 _ _ _ _ _ _ rfl ?_))
  refine WR.ret ⟨rfl, rfl, ⟨_, rfl, VLe.refl _⟩, fun b _ => rfl⟩

theorem clear_core (d : Dk) (a : Int) (ft : Fit d 0) :
    SCall Go.Proofs.Try.prog [] 26 [.ptr 1000 0, .int .i64 a] none ⟨1002, og (dol d), []⟩ (.ret (.int .i64 (write d ⟨2, a, []⟩).2)) none ⟨1002, og (dol (write d ⟨2, a, []⟩).1), []⟩ := by
  refine SCall.listed (fn := Go.Proofs.Try.f26) (by kernel_rfl) res26 (by kernel_rfl) (by kernel_rfl) (Nat.le_refl _) rfl (dol_in _) trivial ?_
  unfold rc26
  repeat (first | refine WR.seq ?_ | refine WR.block ?_ | refine WR.scope ?_ | refine WR.skip ?_ | refine WR.exit ?_ | refine WR.condT rfl ?_ | refine WR.condF rfl ?_ | refine WR.reg (WQ.runS [] 1000 _ _ _ _ rfl ?_) | refine WQ.nilS ?_ | refine WR.dreg hmix (DW.runS [] 1000 _ _ _ _ _ _ rfl ?_))
  refine WQ.callH rfl rfl rfl rfl rfl (write_call (x := []) ft (hd_core d)) (.put (.put .base rfl) rfl) rfl (WQ.runS [] 1000 _ _ _ _ rfl ?_)
  repeat (first | refine WR.seq ?_ | refine WR.block ?_ | refine WR.scope ?_ | refine WR.skip ?_ | refine WR.exit ?_ | refine WR.condT rfl ?_ | refine WR.condF rfl ?_ | refine WR.reg (WQ.runS [] 1000 _ _ _ _ rfl ?_) | refine WQ.nilS ?_ | refine WR.dreg hmix (DW.runS [] 1000 _ _ _ _ _ _ rfl ?_))
  refine WR.ret ⟨rfl, rfl, ⟨_, rfl, VLe.refl _⟩, fun b _ => rfl⟩

theorem root_core (d : Dk) (a : Int) (ft : Fit d 0) :
    SCall Go.Proofs.Try.prog [] 27 [.ptr 1000 0, .int .i64 a] none ⟨1002, og (dol d), []⟩ (.ret (.int .i64 (write d ⟨3, a, []⟩).2)) none ⟨1002, og (dol (write d ⟨3, a, []⟩).1), []⟩ := by
  refine SCall.listed (fn := Go.Proofs.Try.f27) (by kernel_rfl) res27 (by kernel_rfl) (by kernel_rfl) (Nat.le_refl _) rfl (dol_in _) trivial ?_
  unfold rc27
  repeat (first | refine WR.seq ?_ | refine WR.block ?_ | refine WR.scope ?_ | refine WR.skip ?_ | refine WR.exit ?_ | refine WR.condT rfl ?_ | refine WR.condF rfl ?_ | refine WR.reg (WQ.runS [] 1000 _ _ _ _ rfl ?_) | refine WQ.nilS ?_ | refine WR.dreg hmix (DW.runS [] 1000 _ _ _ _ _ _ rfl ?_))
  refine WQ.callH rfl rfl rfl rfl rfl (write_call (x := []) ft (hd_core d)) (.put (.put .base rfl) rfl) rfl (WQ.runS [] 1000 _ _ _ _ rfl ?_)
  repeat (first | refine WR.seq ?_ | refine WR.block ?_ | refine WR.scope ?_ | refine WR.skip ?_ | refine WR.exit ?_ | refine WR.condT rfl ?_ | refine WR.condF rfl ?_ | refine WR.reg (WQ.runS [] 1000 _ _ _ _ rfl ?_) | refine WQ.nilS ?_ | refine WR.dreg hmix (DW.runS [] 1000 _ _ _ _ _ _ rfl ?_))
  refine WR.ret ⟨rfl, rfl, ⟨_, rfl, VLe.refl _⟩, fun b _ => rfl⟩

def plainF (w : Wr) : Wr := if w.kind = 1 then w else if w.kind = 2 then ⟨2, w.area, []⟩ else ⟨3, w.area, []⟩

theorem plain_spec (k a : Int) (x : List Nat) (h : H) : SCall Go.Proofs.Try.prog [] 12 [.agg [.int .i64 k, .int .i64 a, .str x]] none h (.ret (.agg (encW (plainF ⟨k, a, x⟩)))) none h := by
  refine SCall.pure0 rfl ?_ (by exact ⟨encW_in ⟨k, a, x⟩, trivial⟩) (by exact encW_in _) h
  refine SCall.listed (fn := Go.Proofs.Try.f12) (by kernel_rfl) res12 (by kernel_rfl) (by kernel_rfl) (Nat.le_refl _) rfl trivial (encW_in _) ?_
  unfold rc12
  repeat (first | refine WR.seq ?_ | refine WR.block ?_ | refine WR.scope ?_ | refine WR.skip ?_ | refine WR.exit ?_ | refine WR.condT rfl ?_ | refine WR.condF rfl ?_ | refine WR.reg (WQ.runS [] 1000 _ _ _ _ rfl ?_) | refine WQ.nilS ?_ | refine WR.dreg hmix (DW.runS [] 1000 _ _ _ _ _ _ rfl ?_))
  refine WR.cond rfl (fun h1 => ?_) (fun h1 => ?_)
  · have h1 := of_decide_eq_true h1
    have hw : plainF ⟨k, a, x⟩ = ⟨k, a, x⟩ := by simp only [plainF, if_pos h1]
    rw [hw]
    repeat (first | refine WR.seq ?_ | refine WR.block ?_ | refine WR.scope ?_ | refine WR.skip ?_ | refine WR.exit ?_ | refine WR.condT rfl ?_ | refine WR.condF rfl ?_ | refine WR.reg (WQ.runS [] 1000 _ _ _ _ rfl ?_) | refine WQ.nilS ?_ | refine WR.dreg hmix (DW.runS [] 1000 _ _ _ _ _ _ rfl ?_))
    refine WR.ret ⟨rfl, rfl, ⟨_, rfl, VLe.refl _⟩, fun b _ => rfl⟩
  · have h1 := of_decide_eq_false h1
    repeat (first | refine WR.seq ?_ | refine WR.block ?_ | refine WR.scope ?_ | refine WR.skip ?_ | refine WR.exit ?_ | refine WR.condT rfl ?_ | refine WR.condF rfl ?_ | refine WR.reg (WQ.runS [] 1000 _ _ _ _ rfl ?_) | refine WQ.nilS ?_ | refine WR.dreg hmix (DW.runS [] 1000 _ _ _ _ _ _ rfl ?_))
    refine WR.cond rfl (fun h2 => ?_) (fun h2 => ?_)
    · have hw : plainF ⟨k, a, x⟩ = ⟨3, a, []⟩ := by
        have h2 : ¬ k = 2 := by simpa using h2
        simp only [plainF, if_neg h1, if_neg h2]
      rw [hw]
      repeat (first | refine WR.seq ?_ | refine WR.block ?_ | refine WR.scope ?_ | refine WR.skip ?_ | refine WR.exit ?_ | refine WR.condT rfl ?_ | refine WR.condF rfl ?_ | refine WR.reg (WQ.runS [] 1000 _ _ _ _ rfl ?_) | refine WQ.nilS ?_ | refine WR.dreg hmix (DW.runS [] 1000 _ _ _ _ _ _ rfl ?_))
      refine WR.ret ⟨rfl, rfl, ⟨_, rfl, VLe.refl _⟩, fun b _ => rfl⟩
    · have h2 : k = 2 := by simpa using h2
      subst h2
      have hw : plainF ⟨2, a, x⟩ = ⟨2, a, []⟩ := rfl
      rw [hw]
      repeat (first | refine WR.seq ?_ | refine WR.block ?_ | refine WR.scope ?_ | refine WR.skip ?_ | refine WR.exit ?_ | refine WR.condT rfl ?_ | refine WR.condF rfl ?_ | refine WR.reg (WQ.runS [] 1000 _ _ _ _ rfl ?_) | refine WQ.nilS ?_ | refine WR.dreg hmix (DW.runS [] 1000 _ _ _ _ _ _ rfl ?_))
      refine WR.ret ⟨rfl, rfl, ⟨_, rfl, VLe.refl _⟩, fun b _ => rfl⟩

theorem wrote_core (d : Dk) (w : Wr) (ft : Fit d w.data.length) :
    SCall Go.Proofs.Try.prog [] 13 [.ptr 1000 0, .agg (encW (plainF w))] none ⟨1002, og (dol d), []⟩ (.ret (.int .i64 (write d (plainF w)).2)) none ⟨1002, og (dol (write d (plainF w)).1), []⟩ := by
  obtain ⟨k, a, x⟩ := w
  have ft0 : Fit d 0 := ⟨ft.ws, ft.fuse, by have := ft.a0; omega, by have := ft.a1; omega⟩
  refine SCall.listed (fn := Go.Proofs.Try.f13) (by kernel_rfl) res13 (by kernel_rfl) (by kernel_rfl) (Nat.le_refl _) rfl (dol_in _) trivial ?_
  unfold rc13
  unfold plainF
  split
  · rename_i h1
    have h1 : k = 1 := h1
    subst h1
    repeat (first | refine WR.seq ?_ | refine WR.block ?_ | refine WR.scope ?_ | refine WR.skip ?_ | refine WR.exit ?_ | refine WR.condT rfl ?_ | refine WR.condF rfl ?_ | refine WR.reg (WQ.runS [] 1000 _ _ _ _ rfl ?_) | refine WQ.nilS ?_ | refine WR.dreg hmix (DW.runS [] 1000 _ _ _ _ _ _ rfl ?_))
    refine WQ.callH rfl rfl rfl rfl rfl (disk_lift (append_core d a x ft) ⟨trivial, trivial, trivial⟩ trivial (hd_core d)) (.put (.put .base rfl) rfl) rfl (WQ.runS [] 1000 _ _ _ _ rfl ?_)
    repeat (first | refine WR.seq ?_ | refine WR.block ?_ | refine WR.scope ?_ | refine WR.skip ?_ | refine WR.exit ?_ | refine WR.condT rfl ?_ | refine WR.condF rfl ?_ | refine WR.reg (WQ.runS [] 1000 _ _ _ _ rfl ?_) | refine WQ.nilS ?_ | refine WR.dreg hmix (DW.runS [] 1000 _ _ _ _ _ _ rfl ?_))
    refine WR.ret ⟨rfl, rfl, ⟨_, rfl, VLe.refl _⟩, fun b _ => rfl⟩
  · split
    · repeat (first | refine WR.seq ?_ | refine WR.block ?_ | refine WR.scope ?_ | refine WR.skip ?_ | refine WR.exit ?_ | refine WR.condT rfl ?_ | refine WR.condF rfl ?_ | refine WR.reg (WQ.runS [] 1000 _ _ _ _ rfl ?_) | refine WQ.nilS ?_ | refine WR.dreg hmix (DW.runS [] 1000 _ _ _ _ _ _ rfl ?_))
      refine WQ.callH rfl rfl rfl rfl rfl (disk_lift (clear_core d a ft0) ⟨trivial, trivial⟩ trivial (hd_core d)) (.put (.put .base rfl) rfl) rfl (WQ.runS [] 1000 _ _ _ _ rfl ?_)
      repeat (first | refine WR.seq ?_ | refine WR.block ?_ | refine WR.scope ?_ | refine WR.skip ?_ | refine WR.exit ?_ | refine WR.condT rfl ?_ | refine WR.condF rfl ?_ | refine WR.reg (WQ.runS [] 1000 _ _ _ _ rfl ?_) | refine WQ.nilS ?_ | refine WR.dreg hmix (DW.runS [] 1000 _ _ _ _ _ _ rfl ?_))
      refine WR.ret ⟨rfl, rfl, ⟨_, rfl, VLe.refl _⟩, fun b _ => rfl⟩
    · repeat (first | refine WR.seq ?_ | refine WR.block ?_ | refine WR.scope ?_ | refine WR.skip ?_ | refine WR.exit ?_ | refine WR.condT rfl ?_ | refine WR.condF rfl ?_ | refine WR.reg (WQ.runS [] 1000 _ _ _ _ rfl ?_) | refine WQ.nilS ?_ | refine WR.dreg hmix (DW.runS [] 1000 _ _ _ _ _ _ rfl ?_))
      refine WQ.callH rfl rfl rfl rfl rfl (disk_lift (root_core d a ft0) ⟨trivial, trivial⟩ trivial (hd_core d)) (.put (.put .base rfl) rfl) rfl (WQ.runS [] 1000 _ _ _ _ rfl ?_)
      repeat (first | refine WR.seq ?_ | refine WR.block ?_ | refine WR.scope ?_ | refine WR.skip ?_ | refine WR.exit ?_ | refine WR.condT rfl ?_ | refine WR.condF rfl ?_ | refine WR.reg (WQ.runS [] 1000 _ _ _ _ rfl ?_) | refine WQ.nilS ?_ | refine WR.dreg hmix (DW.runS [] 1000 _ _ _ _ _ _ rfl ?_))
      refine WR.ret ⟨rfl, rfl, ⟨_, rfl, VLe.refl _⟩, fun b _ => rfl⟩

/-! ### lists of writes -/
theorem encWs_in (l : List Wr) : Inss (· < glim) (l.map encW) := Inss_map fun w _ => encW_in w
theorem encWs_clean (l : List Wr) : (l.map encW).map (·.map V.clean1) = l.map encW := by simp [encW, V.clean1]

theorem clone_spec (l : List Wr) (c : LC) (hl : l.length ≤ 1000000) (h : H) : SCall Go.Proofs.Try.prog [] 31 [.lst (l.map encW) c] none h (.ret (.lst (l.map encW) .unk)) none h := by
  have key : SCall Go.Proofs.Try.prog [] 31 [.lst (l.map encW) .unk] none h (.ret (.lst (l.map encW) .unk)) none h := by
    refine SCall.pure0 rfl ?_ (by exact ⟨⟨encWs_in l, trivial⟩, trivial⟩) (by exact ⟨encWs_in l, trivial⟩) h
    have := clone_core (P := Go.Proofs.Try.prog) (f := 31) (fn := Go.Proofs.Try.f31) (es := l.map encW) (by kernel_rfl) res31 (by kernel_rfl) (by kernel_rfl) (by kernel_rfl) (encWs_in l) (by simp [encW]) (by simp; unfold lim; omega) (by rw [encWs_clean]; exact encWs_in l)
    rwa [encWs_clean] at this
  refine key.args fun E l' r => ?_
  cases r with
  | cons _ v' _ l' r0 t => cases t; exact .cons _ _ _ _ r0.clean1 .nil

theorem writes_core (d : Dk) (hl : d.ws.length ≤ 1000000) : SCall Go.Proofs.Try.prog [] 24 [.ptr 1000 0] none ⟨1002, og (dol d), []⟩ (.ret (.lst (d.ws.map encW) .unk)) none ⟨1002, og (dol d), []⟩ := by
  refine SCall.listed (fn := Go.Proofs.Try.f24) (by kernel_rfl) res24 (by kernel_rfl) (by kernel_rfl) (Nat.le_refl _) rfl (dol_in _) ⟨Inss_map fun w _ => ⟨trivial, trivial, trivial, trivial⟩, trivial⟩ ?_
  unfold rc24
  repeat (first | refine WR.seq ?_ | refine WR.block ?_ | refine WR.scope ?_ | refine WR.skip ?_ | refine WR.exit ?_ | refine WR.condT rfl ?_ | refine WR.condF rfl ?_ | refine WR.reg (WQ.runS [] 1000 _ _ _ _ rfl ?_) | refine WQ.nilS ?_ | refine WR.dreg hmix (DW.runS [] 1000 _ _ _ _ _ _ rfl ?_))
  refine WQ.callH rfl rfl rfl rfl rfl (clone_spec d.ws (.tk 1001) hl _) .base rfl (WQ.runS [] 1000 _ _ _ _ rfl ?_)
  repeat (first | refine WR.seq ?_ | refine WR.block ?_ | refine WR.scope ?_ | refine WR.skip ?_ | refine WR.exit ?_ | refine WR.condT rfl ?_ | refine WR.condF rfl ?_ | refine WR.reg (WQ.runS [] 1000 _ _ _ _ rfl ?_) | refine WQ.nilS ?_ | refine WR.dreg hmix (DW.runS [] 1000 _ _ _ _ _ _ rfl ?_))
  refine WR.ret ⟨rfl, rfl, ⟨_, rfl, VLe.refl _⟩, fun b _ => rfl⟩
end Go.VM
