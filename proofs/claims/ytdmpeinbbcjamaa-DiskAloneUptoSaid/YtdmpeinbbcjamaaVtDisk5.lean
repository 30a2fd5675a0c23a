/- The disk of the program and the document's: what writes make. -/
import Derived.Test.YtdmpeinbbcjamaaVtDisk4
set_option maxRecDepth 100000
set_option linter.unusedVariables false
set_option linter.unusedSimpArgs false
namespace Go.VM
open Go.RowKit

def badW (w : Wr) : Bool := decide (w.kind < 1) || decide (w.kind > 3) || (!decide (w.kind = 1) && !decide (w.data = []))

def replayF : List Wr → Dk → Option Dk × Int
  | [], d => (some d, 0)
  | w :: r, d => if badW w then (none, 181) else if (write d w).2 ≠ 0 then (none, (write d w).2) else replayF r (write d w).1

/-- the bytes of all. -/
def dl : List Wr → Nat
  | [] => 0
  | w :: r => w.data.length + dl r

theorem done_le (d : Dk) (w : Wr) : (done d w).1.ws.length = d.ws.length + 1 ∧ (done d w).1.fuse = d.fuse ∧ (done d w).1.a0.length ≤ d.a0.length + w.data.length ∧ (done d w).1.a1.length ≤ d.a1.length + w.data.length := by
  unfold done
  split
  · split <;> simp
  · split
    · split <;> simp
    · simp

theorem write_ws (d : Dk) (w : Wr) : (write d w).1.ws.length ≤ d.ws.length + 1 := by
  unfold write
  split
  · simp
  · split
    · simp
    · split
      · simp
      · have := (done_le (if 0 < d.fuse then { d with fuse := d.fuse - 1 } else d) w).1
        rw [this]
        split <;> simp

theorem write_fit {d : Dk} {w : Wr} {n : Nat} (f : Fit d (w.data.length + n)) (hws : d.ws.length + 1 ≤ 1000000 := by omega) : Fit (write d w).1 n := by
  obtain ⟨f1, f2, f3, f4⟩ := f
  unfold write
  split
  · show Fit d n
    exact ⟨by omega, f2, by omega, by omega⟩
  · split
    · show Fit d n
      exact ⟨by omega, f2, by omega, by omega⟩
    · split
      · exact ⟨by simpa using f1, f2, by simp; omega, by simp; omega⟩
      · have key : ∀ d1 : Dk, d1.ws.length = d.ws.length → d1.fuse ≤ d.fuse → d1.a0 = d.a0 → d1.a1 = d.a1 → Fit (done d1 w).1 n := by
          intro d1 e1 e2 e3 e4
          obtain ⟨g1, g2, g3, g4⟩ := done_le d1 w
          rw [e3] at g3
          rw [e4] at g4
          exact ⟨by omega, by omega, by omega, by omega⟩
        split
        · exact key _ rfl (by simp; omega) rfl rfl
        · exact key _ rfl (Int.le_refl _) rfl rfl

def rpTm (ws : List Wr) (i : Nat) : TM := [(4, .v (.ptr 1000 0)), (9, .v (.lst (ws.map encW) .unk)), (10, .v (.int .i64 (ws.map encW).length)), (11, .v (.int .i64 i))]
def rrTm (ws : List Wr) (i : Nat) : TM := [(0, .v (.lst (ws.map encW) .unk)), (4, .v (.ptr 1000 0)), (5, .v (.int .i64 i))]

theorem replay_loop (ws : List Wr) (hws : ws.length ≤ 999999) {QN : S → Prop} {QX : X → S → Prop} : ∀ (n i : Nat) (d : Dk), i + n = ws.length → d.ws.length ≤ i → Fit d (dl (ws.drop i)) →
    (∀ e s', replayF (ws.drop i) d = (none, e) → s'.df = [] → s'.u = none → tg s'.tm 2 = some (.v .nilp) → tg s'.tm 3 = some (.v (.int .i64 e)) → (∃ d', s'.h.ob = og (dol d')) → QX .ret s') →
    (∀ tm d', replayF (ws.drop i) d = (some d', 0) → tg tm 4 = some (.v (.ptr 1000 0)) → QX (.exit 0) (SL.toS ⟨tm, [], none, 1002, dol d', []⟩)) →
    WLr Go.Proofs.Try.prog [] ⟨Go.Proofs.Try.f28.ntmps, none, 28⟩ rc28_L1 (SL.toS ⟨rpTm ws i, [], none, 1002, dol d, []⟩) QN QX := by
  intro n
  induction n with
  | zero =>
    intro i d hi hd ft hr hx
    unfold rc28_L1
    refine WLr.of ?_
    repeat (first | refine WR.seq ?_ | refine WR.block ?_ | refine WR.scope ?_ | refine WR.skip ?_ | refine WR.exit ?_ | refine WR.condT rfl ?_ | refine WR.condF rfl ?_ | refine WR.reg (WQ.runS [] 1000 _ _ _ _ rfl ?_) | refine WQ.nilS ?_ | refine WR.dreg hmix (DW.runS [] 1000 _ _ _ _ _ _ rfl ?_))
    refine WR.cond rfl (fun h1 => ?_) (fun h1 => ?_)
    · have h1 := of_decide_eq_true h1
      simp at h1; omega
    · repeat (first | refine WR.seq ?_ | refine WR.block ?_ | refine WR.scope ?_ | refine WR.skip ?_ | refine WR.exit ?_ | refine WR.condT rfl ?_ | refine WR.condF rfl ?_ | refine WR.reg (WQ.runS [] 1000 _ _ _ _ rfl ?_) | refine WQ.nilS ?_ | refine WR.dreg hmix (DW.runS [] 1000 _ _ _ _ _ _ rfl ?_))
      refine hx _ d ?_ rfl
      rw [List.drop_eq_nil_of_le (by omega)]; rfl
  | succ n ih =>
    intro i d hi hd ft hr hx
    have hlt : i < ws.length := by omega
    have hg : (ws.map encW)[i]? = some (encW ws[i]) := by simp [hlt]
    have hdr : ws.drop i = ws[i] :: ws.drop (i + 1) := List.drop_eq_getElem_cons hlt
    generalize ws[i] = w at hg hdr
    obtain ⟨k, a, x⟩ := w
    rw [hdr] at ft
    have hf1 : Fit d (x.length + dl (ws.drop (i + 1))) := ft
    have ft : Fit d (x.length + dl (ws.drop (i + 1))) := ft
    unfold rc28_L1
    refine WLr.of ?_
    repeat (first | refine WR.seq ?_ | refine WR.block ?_ | refine WR.scope ?_ | refine WR.skip ?_ | refine WR.exit ?_ | refine WR.condT rfl ?_ | refine WR.condF rfl ?_ | refine WR.reg (WQ.runS [] 1000 _ _ _ _ rfl ?_) | refine WQ.nilS ?_ | refine WR.dreg hmix (DW.runS [] 1000 _ _ _ _ _ _ rfl ?_))
    refine WR.cond rfl (fun h1 => ?_) (fun h1 => ?_)
    rotate_left
    · have h1 := of_decide_eq_false h1
      simp at h1; omega
    refine WR.skip (WR.seq (WR.block (WR.seq (WR.reg ?_))))
    refine WQ.lightS rfl rfl rfl (ia_at rfl rfl hg rfl) rfl ?_
    refine WQ.runS [] 1000 _ _ _ _ rfl (WQ.nilS ?_)
    refine WR.seq (WR.seq (WR.reg (WQ.runS [] 4 _ _ _ _ rfl ?_)))
    refine WQ.guard 18 rfl (fun q1 => ?_) (fun q1 => ?_) <;> rw [q1]
    · have q1 := of_decide_eq_true q1
      refine WQ.runS [] 1000 _ _ _ _ rfl (WQ.nilS ?_)
      refine WR.condT rfl ?_
      repeat (first | refine WR.seq ?_ | refine WR.block ?_ | refine WR.scope ?_ | refine WR.skip ?_ | refine WR.exit ?_ | refine WR.condT rfl ?_ | refine WR.condF rfl ?_ | refine WR.reg (WQ.runS [] 1000 _ _ _ _ rfl ?_) | refine WQ.nilS ?_ | refine WR.dreg hmix (DW.runS [] 1000 _ _ _ _ _ _ rfl ?_))
      refine WR.ret ?_
      show QX .ret _
      refine hr 181 _ (by rw [hdr]; simp [replayF, badW, q1]) ?_ ?_ ?_ ?_ ?_ <;> first | rfl | exact ⟨_, rfl⟩
    have q1 := of_decide_eq_false q1
    refine WQ.runS [] 5 _ _ _ _ rfl ?_
    refine WQ.guard 23 rfl (fun q2 => ?_) (fun q2 => ?_) <;> rw [q2]
    · have q2 := of_decide_eq_true q2
      refine WQ.runS [] 1000 _ _ _ _ rfl (WQ.nilS ?_)
      refine WR.condT rfl ?_
      repeat (first | refine WR.seq ?_ | refine WR.block ?_ | refine WR.scope ?_ | refine WR.skip ?_ | refine WR.exit ?_ | refine WR.condT rfl ?_ | refine WR.condF rfl ?_ | refine WR.reg (WQ.runS [] 1000 _ _ _ _ rfl ?_) | refine WQ.nilS ?_ | refine WR.dreg hmix (DW.runS [] 1000 _ _ _ _ _ _ rfl ?_))
      refine WR.ret ?_
      show QX .ret _
      refine hr 181 _ (by rw [hdr]; simp [replayF, badW, q2]) ?_ ?_ ?_ ?_ ?_ <;> first | rfl | exact ⟨_, rfl⟩
    have q2 := of_decide_eq_false q2
    refine WQ.runS [] 4 _ _ _ _ rfl ?_
    refine WQ.guard 27 rfl (fun q3 => ?_) (fun q3 => ?_) <;> rw [q3]
    · refine WQ.runS [] 1000 _ _ _ _ rfl (WQ.nilS ?_)
      have q3 : ¬ k = 1 := by simpa using q3
      refine WR.cond rfl (fun q4 => ?_) (fun q4 => ?_)
      · have q4 : ¬ x = [] := by simpa using q4
        repeat (first | refine WR.seq ?_ | refine WR.block ?_ | refine WR.scope ?_ | refine WR.skip ?_ | refine WR.exit ?_ | refine WR.condT rfl ?_ | refine WR.condF rfl ?_ | refine WR.reg (WQ.runS [] 1000 _ _ _ _ rfl ?_) | refine WQ.nilS ?_ | refine WR.dreg hmix (DW.runS [] 1000 _ _ _ _ _ _ rfl ?_))
        refine WR.ret ?_
        show QX .ret _
        refine hr 181 _ (by rw [hdr]; simp [replayF, badW, q3, q4]) ?_ ?_ ?_ ?_ ?_ <;> first | rfl | exact ⟨_, rfl⟩
      · have q4 : x = [] := by simpa using q4
        have hbad : badW ⟨k, a, x⟩ = false := by simp [badW, q1, q2, q4]
        repeat (first | refine WR.seq ?_ | refine WR.block ?_ | refine WR.scope ?_ | refine WR.skip ?_ | refine WR.exit ?_ | refine WR.condT rfl ?_ | refine WR.condF rfl ?_ | refine WR.reg (WQ.runS [] 1000 _ _ _ _ rfl ?_) | refine WQ.nilS ?_ | refine WR.dreg hmix (DW.runS [] 1000 _ _ _ _ _ _ rfl ?_))
        refine WQ.callH rfl rfl rfl rfl rfl (write_call (x := x) ⟨by omega, ft.fuse, by have := ft.a0; omega, by have := ft.a1; omega⟩ (hd_core d)) (.put (.put .base rfl) rfl) rfl (WQ.runS [] 1000 _ _ _ _ rfl ?_)
        repeat (first | refine WR.seq ?_ | refine WR.block ?_ | refine WR.scope ?_ | refine WR.skip ?_ | refine WR.exit ?_ | refine WR.condT rfl ?_ | refine WR.condF rfl ?_ | refine WR.reg (WQ.runS [] 1000 _ _ _ _ rfl ?_) | refine WQ.nilS ?_ | refine WR.dreg hmix (DW.runS [] 1000 _ _ _ _ _ _ rfl ?_))
        refine WR.cond rfl (fun h8 => ?_) (fun h8 => ?_)
        · have h8 : ¬ (write d ⟨k, a, x⟩).2 = 0 := by simpa using h8
          repeat (first | refine WR.seq ?_ | refine WR.block ?_ | refine WR.scope ?_ | refine WR.skip ?_ | refine WR.exit ?_ | refine WR.condT rfl ?_ | refine WR.condF rfl ?_ | refine WR.reg (WQ.runS [] 1000 _ _ _ _ rfl ?_) | refine WQ.nilS ?_ | refine WR.dreg hmix (DW.runS [] 1000 _ _ _ _ _ _ rfl ?_))
          refine WR.ret ?_
          show QX .ret _
          refine hr (write d ⟨k, a, x⟩).2 _ (by rw [hdr]; simp only [replayF, hbad, Bool.false_eq_true, if_false, ne_eq, h8, not_false_eq_true, if_true]) ?_ ?_ ?_ ?_ ?_ <;> first | rfl | exact ⟨_, rfl⟩
        · have h8 : (write d ⟨k, a, x⟩).2 = 0 := by simpa using h8
          have hst : replayF (ws.drop i) d = replayF (ws.drop (i + 1)) (write d ⟨k, a, x⟩).1 := by
            rw [hdr]; simp only [replayF, hbad, Bool.false_eq_true, if_false, ne_eq, h8, not_true]
          repeat (first | refine WR.seq ?_ | refine WR.block ?_ | refine WR.scope ?_ | refine WR.skip ?_ | refine WR.exit ?_ | refine WR.condT rfl ?_ | refine WR.condF rfl ?_ | refine WR.reg (WQ.runS [] 1000 _ _ _ _ rfl ?_) | refine WQ.nilS ?_ | refine WR.dreg hmix (DW.runS [] 1000 _ _ _ _ _ _ rfl ?_))
          rw [wrapS i (by omega)]
          refine WIr.again (WLr.weak (s := SL.toS ⟨rpTm ws (i + 1), [], none, 1002, dol (write d ⟨k, a, x⟩).1, []⟩) ?_ ?_)
          · refine SW.tellR ?_ ?_
            · repeat (first | exact .nil | refine .cons rfl (.v (VLe.refl _)) ?_ | refine .cons rfl (.l _ _ rfl) ?_ | refine .cons rfl (.v (VLe.unk _ _)) ?_)
            · repeat (first | exact .nil | refine .cons rfl (.inl rfl) ?_)
          refine ih (i + 1) _ (by omega) (by have := write_ws d ⟨k, a, x⟩; omega) (write_fit hf1) (fun e s' h => hr e s' (hst.trans h)) (fun tm d' h => hx tm d' (hst.trans h))
    · refine WQ.runS [] 1000 _ _ _ _ rfl (WQ.nilS ?_)
      have q3 : k = 1 := by simpa using q3
      have hbad : badW ⟨k, a, x⟩ = false := by simp [badW, q1, q2, q3]
      refine WR.condF rfl ?_
      repeat (first | refine WR.seq ?_ | refine WR.block ?_ | refine WR.scope ?_ | refine WR.skip ?_ | refine WR.exit ?_ | refine WR.condT rfl ?_ | refine WR.condF rfl ?_ | refine WR.reg (WQ.runS [] 1000 _ _ _ _ rfl ?_) | refine WQ.nilS ?_ | refine WR.dreg hmix (DW.runS [] 1000 _ _ _ _ _ _ rfl ?_))
      refine WQ.callH rfl rfl rfl rfl rfl (write_call (x := x) ⟨by omega, ft.fuse, by have := ft.a0; omega, by have := ft.a1; omega⟩ (hd_core d)) (.put (.put .base rfl) rfl) rfl (WQ.runS [] 1000 _ _ _ _ rfl ?_)
      repeat (first | refine WR.seq ?_ | refine WR.block ?_ | refine WR.scope ?_ | refine WR.skip ?_ | refine WR.exit ?_ | refine WR.condT rfl ?_ | refine WR.condF rfl ?_ | refine WR.reg (WQ.runS [] 1000 _ _ _ _ rfl ?_) | refine WQ.nilS ?_ | refine WR.dreg hmix (DW.runS [] 1000 _ _ _ _ _ _ rfl ?_))
      refine WR.cond rfl (fun h8 => ?_) (fun h8 => ?_)
      · have h8 : ¬ (write d ⟨k, a, x⟩).2 = 0 := by simpa using h8
        repeat (first | refine WR.seq ?_ | refine WR.block ?_ | refine WR.scope ?_ | refine WR.skip ?_ | refine WR.exit ?_ | refine WR.condT rfl ?_ | refine WR.condF rfl ?_ | refine WR.reg (WQ.runS [] 1000 _ _ _ _ rfl ?_) | refine WQ.nilS ?_ | refine WR.dreg hmix (DW.runS [] 1000 _ _ _ _ _ _ rfl ?_))
        refine WR.ret ?_
        show QX .ret _
        refine hr (write d ⟨k, a, x⟩).2 _ (by rw [hdr]; simp only [replayF, hbad, Bool.false_eq_true, if_false, ne_eq, h8, not_false_eq_true, if_true]) ?_ ?_ ?_ ?_ ?_ <;> first | rfl | exact ⟨_, rfl⟩
      · have h8 : (write d ⟨k, a, x⟩).2 = 0 := by simpa using h8
        have hst : replayF (ws.drop i) d = replayF (ws.drop (i + 1)) (write d ⟨k, a, x⟩).1 := by
          rw [hdr]; simp only [replayF, hbad, Bool.false_eq_true, if_false, ne_eq, h8, not_true]
        repeat (first | refine WR.seq ?_ | refine WR.block ?_ | refine WR.scope ?_ | refine WR.skip ?_ | refine WR.exit ?_ | refine WR.condT rfl ?_ | refine WR.condF rfl ?_ | refine WR.reg (WQ.runS [] 1000 _ _ _ _ rfl ?_) | refine WQ.nilS ?_ | refine WR.dreg hmix (DW.runS [] 1000 _ _ _ _ _ _ rfl ?_))
        rw [wrapS i (by omega)]
        refine WIr.again (WLr.weak (s := SL.toS ⟨rpTm ws (i + 1), [], none, 1002, dol (write d ⟨k, a, x⟩).1, []⟩) ?_ ?_)
        · refine SW.tellR ?_ ?_
          · repeat (first | exact .nil | refine .cons rfl (.v (VLe.refl _)) ?_ | refine .cons rfl (.l _ _ rfl) ?_ | refine .cons rfl (.v (VLe.unk _ _)) ?_)
          · repeat (first | exact .nil | refine .cons rfl (.inl rfl) ?_)
        refine ih (i + 1) _ (by omega) (by have := write_ws d ⟨k, a, x⟩; omega) (write_fit hf1) (fun e s' h => hr e s' (hst.trans h)) (fun tm d' h => hx tm d' (hst.trans h))

theorem replayR_loop (ws : List Wr) (hws : ws.length ≤ 999999) {QN : S → Prop} {QX : X → S → Prop} : ∀ (n i : Nat) (d : Dk), i + n = ws.length → d.ws.length ≤ i → Fit d (dl (ws.drop i)) →
    (∀ e s', replayF (ws.drop i) d = (none, e) → s'.df = [] → s'.u = none → tg s'.tm 2 = some (.v .nilp) → tg s'.tm 3 = some (.v (.int .i64 e)) → (∃ d', s'.h.ob = og (dol d')) → QX .ret s') →
    (∀ tm d', replayF (ws.drop i) d = (some d', 0) → tg tm 4 = some (.v (.ptr 1000 0)) → QX (.exit 0) (SL.toS ⟨tm, [], none, 1002, dol d', []⟩)) →
    WLr Go.Proofs.Try.prog [] ⟨Go.Proofs.Try.f29.ntmps, none, 29⟩ rc29_L1 (SL.toS ⟨rrTm ws i, [], none, 1002, dol d, []⟩) QN QX := by
  intro n
  induction n with
  | zero =>
    intro i d hi hd ft hr hx
    unfold rc29_L1
    refine WLr.of ?_
    repeat (first | refine WR.seq ?_ | refine WR.block ?_ | refine WR.scope ?_ | refine WR.skip ?_ | refine WR.exit ?_ | refine WR.condT rfl ?_ | refine WR.condF rfl ?_ | refine WR.reg (WQ.runS [] 1000 _ _ _ _ rfl ?_) | refine WQ.nilS ?_ | refine WR.dreg hmix (DW.runS [] 1000 _ _ _ _ _ _ rfl ?_))
    refine WR.cond rfl (fun h1 => ?_) (fun h1 => ?_)
    · have h1 := of_decide_eq_true h1
      simp at h1; omega
    · repeat (first | refine WR.seq ?_ | refine WR.block ?_ | refine WR.scope ?_ | refine WR.skip ?_ | refine WR.exit ?_ | refine WR.condT rfl ?_ | refine WR.condF rfl ?_ | refine WR.reg (WQ.runS [] 1000 _ _ _ _ rfl ?_) | refine WQ.nilS ?_ | refine WR.dreg hmix (DW.runS [] 1000 _ _ _ _ _ _ rfl ?_))
      refine hx _ d ?_ rfl
      rw [List.drop_eq_nil_of_le (by omega)]; rfl
  | succ n ih =>
    intro i d hi hd ft hr hx
    have hlt : i < ws.length := by omega
    have hg : (ws.map encW)[i]? = some (encW ws[i]) := by simp [hlt]
    have hdr : ws.drop i = ws[i] :: ws.drop (i + 1) := List.drop_eq_getElem_cons hlt
    generalize ws[i] = w at hg hdr
    obtain ⟨k, a, x⟩ := w
    rw [hdr] at ft
    have hf1 : Fit d (x.length + dl (ws.drop (i + 1))) := ft
    have ft : Fit d (x.length + dl (ws.drop (i + 1))) := ft
    unfold rc29_L1
    refine WLr.of ?_
    repeat (first | refine WR.seq ?_ | refine WR.block ?_ | refine WR.scope ?_ | refine WR.skip ?_ | refine WR.exit ?_ | refine WR.condT rfl ?_ | refine WR.condF rfl ?_ | refine WR.reg (WQ.runS [] 1000 _ _ _ _ rfl ?_) | refine WQ.nilS ?_ | refine WR.dreg hmix (DW.runS [] 1000 _ _ _ _ _ _ rfl ?_))
    refine WR.cond rfl (fun h1 => ?_) (fun h1 => ?_)
    rotate_left
    · have h1 := of_decide_eq_false h1
      simp at h1; omega
    refine WR.skip (WR.seq (WR.block (WR.seq (WR.reg ?_))))
    refine WQ.runS [] 2 _ _ _ _ rfl (WQ.lightS rfl rfl rfl (ia_at rfl rfl hg rfl) rfl ?_)
    refine WQ.runS [] 1000 _ _ _ _ rfl (WQ.nilS ?_)
    refine WR.seq (WR.seq (WR.reg (WQ.runS [] 4 _ _ _ _ rfl ?_)))
    refine WQ.guard 22 rfl (fun q1 => ?_) (fun q1 => ?_) <;> rw [q1]
    · have q1 := of_decide_eq_true q1
      refine WQ.runS [] 1000 _ _ _ _ rfl (WQ.nilS ?_)
      refine WR.condT rfl ?_
      repeat (first | refine WR.seq ?_ | refine WR.block ?_ | refine WR.scope ?_ | refine WR.skip ?_ | refine WR.exit ?_ | refine WR.condT rfl ?_ | refine WR.condF rfl ?_ | refine WR.reg (WQ.runS [] 1000 _ _ _ _ rfl ?_) | refine WQ.nilS ?_ | refine WR.dreg hmix (DW.runS [] 1000 _ _ _ _ _ _ rfl ?_))
      refine WR.ret ?_
      show QX .ret _
      refine hr 181 _ (by rw [hdr]; simp [replayF, badW, q1]) ?_ ?_ ?_ ?_ ?_ <;> first | rfl | exact ⟨_, rfl⟩
    have q1 := of_decide_eq_false q1
    refine WQ.runS [] 5 _ _ _ _ rfl ?_
    refine WQ.guard 27 rfl (fun q2 => ?_) (fun q2 => ?_) <;> rw [q2]
    · have q2 := of_decide_eq_true q2
      refine WQ.runS [] 1000 _ _ _ _ rfl (WQ.nilS ?_)
      refine WR.condT rfl ?_
      repeat (first | refine WR.seq ?_ | refine WR.block ?_ | refine WR.scope ?_ | refine WR.skip ?_ | refine WR.exit ?_ | refine WR.condT rfl ?_ | refine WR.condF rfl ?_ | refine WR.reg (WQ.runS [] 1000 _ _ _ _ rfl ?_) | refine WQ.nilS ?_ | refine WR.dreg hmix (DW.runS [] 1000 _ _ _ _ _ _ rfl ?_))
      refine WR.ret ?_
      show QX .ret _
      refine hr 181 _ (by rw [hdr]; simp [replayF, badW, q2]) ?_ ?_ ?_ ?_ ?_ <;> first | rfl | exact ⟨_, rfl⟩
    have q2 := of_decide_eq_false q2
    refine WQ.runS [] 4 _ _ _ _ rfl ?_
    refine WQ.guard 31 rfl (fun q3 => ?_) (fun q3 => ?_) <;> rw [q3]
    · refine WQ.runS [] 1000 _ _ _ _ rfl (WQ.nilS ?_)
      have q3 : ¬ k = 1 := by simpa using q3
      refine WR.cond rfl (fun q4 => ?_) (fun q4 => ?_)
      · have q4 : ¬ x = [] := by simpa using q4
        repeat (first | refine WR.seq ?_ | refine WR.block ?_ | refine WR.scope ?_ | refine WR.skip ?_ | refine WR.exit ?_ | refine WR.condT rfl ?_ | refine WR.condF rfl ?_ | refine WR.reg (WQ.runS [] 1000 _ _ _ _ rfl ?_) | refine WQ.nilS ?_ | refine WR.dreg hmix (DW.runS [] 1000 _ _ _ _ _ _ rfl ?_))
        refine WR.ret ?_
        show QX .ret _
        refine hr 181 _ (by rw [hdr]; simp [replayF, badW, q3, q4]) ?_ ?_ ?_ ?_ ?_ <;> first | rfl | exact ⟨_, rfl⟩
      · have q4 : x = [] := by simpa using q4
        have hbad : badW ⟨k, a, x⟩ = false := by simp [badW, q1, q2, q4]
        repeat (first | refine WR.seq ?_ | refine WR.block ?_ | refine WR.scope ?_ | refine WR.skip ?_ | refine WR.exit ?_ | refine WR.condT rfl ?_ | refine WR.condF rfl ?_ | refine WR.reg (WQ.runS [] 1000 _ _ _ _ rfl ?_) | refine WQ.nilS ?_ | refine WR.dreg hmix (DW.runS [] 1000 _ _ _ _ _ _ rfl ?_))
        refine WQ.callH rfl rfl rfl rfl rfl (do_call (x := x) ⟨by omega, ft.fuse, by have := ft.a0; omega, by have := ft.a1; omega⟩ (hd_core d)) (.put (.put .base rfl) rfl) rfl (WQ.runS [] 1000 _ _ _ _ rfl ?_)
        repeat (first | refine WR.seq ?_ | refine WR.block ?_ | refine WR.scope ?_ | refine WR.skip ?_ | refine WR.exit ?_ | refine WR.condT rfl ?_ | refine WR.condF rfl ?_ | refine WR.reg (WQ.runS [] 1000 _ _ _ _ rfl ?_) | refine WQ.nilS ?_ | refine WR.dreg hmix (DW.runS [] 1000 _ _ _ _ _ _ rfl ?_))
        refine WR.cond rfl (fun h8 => ?_) (fun h8 => ?_)
        · have h8 : ¬ (write d ⟨k, a, x⟩).2 = 0 := by simpa using h8
          repeat (first | refine WR.seq ?_ | refine WR.block ?_ | refine WR.scope ?_ | refine WR.skip ?_ | refine WR.exit ?_ | refine WR.condT rfl ?_ | refine WR.condF rfl ?_ | refine WR.reg (WQ.runS [] 1000 _ _ _ _ rfl ?_) | refine WQ.nilS ?_ | refine WR.dreg hmix (DW.runS [] 1000 _ _ _ _ _ _ rfl ?_))
          refine WR.ret ?_
          show QX .ret _
          refine hr (write d ⟨k, a, x⟩).2 _ (by rw [hdr]; simp only [replayF, hbad, Bool.false_eq_true, if_false, ne_eq, h8, not_false_eq_true, if_true]) ?_ ?_ ?_ ?_ ?_ <;> first | rfl | exact ⟨_, rfl⟩
        · have h8 : (write d ⟨k, a, x⟩).2 = 0 := by simpa using h8
          have hst : replayF (ws.drop i) d = replayF (ws.drop (i + 1)) (write d ⟨k, a, x⟩).1 := by
            rw [hdr]; simp only [replayF, hbad, Bool.false_eq_true, if_false, ne_eq, h8, not_true]
          repeat (first | refine WR.seq ?_ | refine WR.block ?_ | refine WR.scope ?_ | refine WR.skip ?_ | refine WR.exit ?_ | refine WR.condT rfl ?_ | refine WR.condF rfl ?_ | refine WR.reg (WQ.runS [] 1000 _ _ _ _ rfl ?_) | refine WQ.nilS ?_ | refine WR.dreg hmix (DW.runS [] 1000 _ _ _ _ _ _ rfl ?_))
          rw [wrapS i (by omega)]
          refine WIr.again (WLr.weak (s := SL.toS ⟨rrTm ws (i + 1), [], none, 1002, dol (write d ⟨k, a, x⟩).1, []⟩) ?_ ?_)
          · refine SW.tellR ?_ ?_
            · repeat (first | exact .nil | refine .cons rfl (.v (VLe.refl _)) ?_ | refine .cons rfl (.l _ _ rfl) ?_ | refine .cons rfl (.v (VLe.unk _ _)) ?_)
            · repeat (first | exact .nil | refine .cons rfl (.inl rfl) ?_)
          refine ih (i + 1) _ (by omega) (by have := write_ws d ⟨k, a, x⟩; omega) (write_fit hf1) (fun e s' h => hr e s' (hst.trans h)) (fun tm d' h => hx tm d' (hst.trans h))
    · refine WQ.runS [] 1000 _ _ _ _ rfl (WQ.nilS ?_)
      have q3 : k = 1 := by simpa using q3
      have hbad : badW ⟨k, a, x⟩ = false := by simp [badW, q1, q2, q3]
      refine WR.condF rfl ?_
      repeat (first | refine WR.seq ?_ | refine WR.block ?_ | refine WR.scope ?_ | refine WR.skip ?_ | refine WR.exit ?_ | refine WR.condT rfl ?_ | refine WR.condF rfl ?_ | refine WR.reg (WQ.runS [] 1000 _ _ _ _ rfl ?_) | refine WQ.nilS ?_ | refine WR.dreg hmix (DW.runS [] 1000 _ _ _ _ _ _ rfl ?_))
      refine WQ.callH rfl rfl rfl rfl rfl (do_call (x := x) ⟨by omega, ft.fuse, by have := ft.a0; omega, by have := ft.a1; omega⟩ (hd_core d)) (.put (.put .base rfl) rfl) rfl (WQ.runS [] 1000 _ _ _ _ rfl ?_)
      repeat (first | refine WR.seq ?_ | refine WR.block ?_ | refine WR.scope ?_ | refine WR.skip ?_ | refine WR.exit ?_ | refine WR.condT rfl ?_ | refine WR.condF rfl ?_ | refine WR.reg (WQ.runS [] 1000 _ _ _ _ rfl ?_) | refine WQ.nilS ?_ | refine WR.dreg hmix (DW.runS [] 1000 _ _ _ _ _ _ rfl ?_))
      refine WR.cond rfl (fun h8 => ?_) (fun h8 => ?_)
      · have h8 : ¬ (write d ⟨k, a, x⟩).2 = 0 := by simpa using h8
        repeat (first | refine WR.seq ?_ | refine WR.block ?_ | refine WR.scope ?_ | refine WR.skip ?_ | refine WR.exit ?_ | refine WR.condT rfl ?_ | refine WR.condF rfl ?_ | refine WR.reg (WQ.runS [] 1000 _ _ _ _ rfl ?_) | refine WQ.nilS ?_ | refine WR.dreg hmix (DW.runS [] 1000 _ _ _ _ _ _ rfl ?_))
        refine WR.ret ?_
        show QX .ret _
        refine hr (write d ⟨k, a, x⟩).2 _ (by rw [hdr]; simp only [replayF, hbad, Bool.false_eq_true, if_false, ne_eq, h8, not_false_eq_true, if_true]) ?_ ?_ ?_ ?_ ?_ <;> first | rfl | exact ⟨_, rfl⟩
      · have h8 : (write d ⟨k, a, x⟩).2 = 0 := by simpa using h8
        have hst : replayF (ws.drop i) d = replayF (ws.drop (i + 1)) (write d ⟨k, a, x⟩).1 := by
          rw [hdr]; simp only [replayF, hbad, Bool.false_eq_true, if_false, ne_eq, h8, not_true]
        repeat (first | refine WR.seq ?_ | refine WR.block ?_ | refine WR.scope ?_ | refine WR.skip ?_ | refine WR.exit ?_ | refine WR.condT rfl ?_ | refine WR.condF rfl ?_ | refine WR.reg (WQ.runS [] 1000 _ _ _ _ rfl ?_) | refine WQ.nilS ?_ | refine WR.dreg hmix (DW.runS [] 1000 _ _ _ _ _ _ rfl ?_))
        rw [wrapS i (by omega)]
        refine WIr.again (WLr.weak (s := SL.toS ⟨rrTm ws (i + 1), [], none, 1002, dol (write d ⟨k, a, x⟩).1, []⟩) ?_ ?_)
        · refine SW.tellR ?_ ?_
          · repeat (first | exact .nil | refine .cons rfl (.v (VLe.refl _)) ?_ | refine .cons rfl (.l _ _ rfl) ?_ | refine .cons rfl (.v (VLe.unk _ _)) ?_)
          · repeat (first | exact .nil | refine .cons rfl (.inl rfl) ?_)
        refine ih (i + 1) _ (by omega) (by have := write_ws d ⟨k, a, x⟩; omega) (write_fit hf1) (fun e s' h => hr e s' (hst.trans h)) (fun tm d' h => hx tm d' (hst.trans h))
end Go.VM
