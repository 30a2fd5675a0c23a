/- The law DiskPlays. -/
import Derived.Test.YtdmpeinbbcjamaaVtReplays
set_option maxRecDepth 100000
set_option linter.unusedVariables false
set_option linter.unusedSimpArgs false
namespace Go.VM
open Go.RowKit

structure Cl where
  kind : Int
  w : Wr
  n : Int

def encC (c : Cl) : List V := [.int .i64 c.kind, .int .i64 c.w.kind, .int .i64 c.w.area, .str c.w.data, .int .i64 c.n]

theorem encC_in (c : Cl) : Ins (· < glim) (encC c) := ⟨trivial, trivial, trivial, trivial, trivial, trivial⟩

noncomputable abbrev fr4 : Fr := ⟨Go.Proofs.Try.f4.ntmps, none, 4⟩

/-- two disks alike. -/
def ol2 (d : Dk) : OL := [(1000, .cells false (encD d 1001)), (1001, .tok d.ws.length), (1002, .cells false (encD d 1003)), (1003, .tok d.ws.length)]
def pTm (l : List Cl) (i : Nat) : TM := [(0, .v (.lst (l.map encC) .unk)), (4, .v (.ptr 1000 0)), (5, .v (.ptr 1002 0)), (6, .v (.int .i64 i))]

theorem ret4 {tm : TM} {ol : OL} {nx : Nat} {lc : LM} (h : tg tm 2 = some (.v (.bool true))) (hol : ∀ b, b < 1000 → og ol b = none) : retX (RetS Go.Proofs.Try.prog Go.Proofs.Try.f4 (.bool true) 1000 []) .ret (SL.toS ⟨tm, [], none, nx, ol, lc⟩) := by
  refine ⟨rfl, rfl, ⟨[.bool true], ?_, VLe.refl _⟩, fun b hb => (hol b hb).symm⟩
  show resV Go.Proofs.Try.prog _ _ [.tmp 2] = _
  simp only [resV, SL.toS, h]

theorem areaA {d : Dk} {n : Int} {h : H} (hd : HD h 1000 1001 d) : SCall Go.Proofs.Try.prog [] 19 [.ptr 1000 0, .int .i64 n] none h (.ret (.tup [.str (areaF d n).1, .int .i64 (areaF d n).2])) none h :=
  disk_read (area_core d n) ⟨trivial, trivial⟩ ⟨trivial, trivial, trivial⟩ hd
theorem areaB {d : Dk} {n : Int} {h : H} (hd : HD h 1002 1003 d) : SCall Go.Proofs.Try.prog [] 20 [.ptr 1002 0, .int .i64 n] none h (.ret (.tup [.str (areaF d n).1, .int .i64 (areaF d n).2])) none h :=
  disk_read (areaR_core d n) ⟨trivial, trivial⟩ ⟨trivial, trivial, trivial⟩ hd

theorem neg_self {α : Type} (a : α) [Decidable (a = a)] : (!decide (a = a)) = false := by simp

theorem nowA {d : Dk} {h : H} (hd : HD h 1000 1001 d) : SCall Go.Proofs.Try.prog [] 21 [.ptr 1000 0] none h (.ret (.tup [.int .i64 (nowF d).1, .int .i64 (nowF d).2])) none h :=
  disk_read (now_core d) trivial ⟨trivial, trivial, trivial⟩ hd
theorem nowB {d : Dk} {h : H} (hd : HD h 1002 1003 d) : SCall Go.Proofs.Try.prog [] 22 [.ptr 1002 0] none h (.ret (.tup [.int .i64 (nowF d).1, .int .i64 (nowF d).2])) none h :=
  disk_read (nowR_core d) trivial ⟨trivial, trivial, trivial⟩ hd
theorem writesA {d : Dk} {h : H} (hl : d.ws.length ≤ 1000000) (hd : HD h 1000 1001 d) : SCall Go.Proofs.Try.prog [] 24 [.ptr 1000 0] none h (.ret (.lst (d.ws.map encW) .unk)) none h :=
  disk_read (writes_core d hl) trivial ⟨encWs_in _, trivial⟩ hd

/-- both are asked, behind a call: they answer the same. -/
theorem plays_rest (l : List Cl) (i : Nat) (d : Dk) (hi : i < 200) (hws : d.ws.length ≤ 1000000) {QN : S → Prop} {QX : X → S → Prop}
    (hn : ∀ tm lc, tg tm 0 = some (.v (.lst (l.map encC) .unk)) → tg tm 4 = some (.v (.ptr 1000 0)) → tg tm 5 = some (.v (.ptr 1002 0)) → tg tm 6 = some (.v (.int .i64 i)) → QN (SL.toS ⟨tm, [], none, 1004, ol2 d, lc⟩)) :
    WR Go.Proofs.Try.prog [] fr4 rc4_J3 (SL.toS ⟨pTm l i, [], none, 1004, ol2 d, []⟩) QN QX := by
  unfold rc4_J3
  repeat (first | refine WR.seq ?_ | refine WR.block ?_ | refine WR.scope ?_ | refine WR.skip ?_ | refine WR.exit ?_ | refine WR.condT rfl ?_ | refine WR.condF rfl ?_ | refine WR.reg (WQ.runS [] 1000 _ _ _ _ rfl ?_) | refine WQ.nilS ?_ | refine WR.dreg hmix (DW.runS [] 1000 _ _ _ _ _ _ rfl ?_))
  refine WR.loop ?_
  unfold rc4_L1
  refine WLr.of ?_
  repeat (first | refine WR.seq ?_ | refine WR.block ?_ | refine WR.scope ?_ | refine WR.skip ?_ | refine WR.exit ?_ | refine WR.condT rfl ?_ | refine WR.condF rfl ?_ | refine WR.reg (WQ.runS [] 1000 _ _ _ _ rfl ?_) | refine WQ.nilS ?_ | refine WR.dreg hmix (DW.runS [] 1000 _ _ _ _ _ _ rfl ?_))
  refine WQ.callH rfl rfl rfl rfl rfl (areaA (hd_at rfl rfl rfl rfl rfl)) .base rfl (WQ.runS [] 1000 _ _ _ _ rfl ?_)
  repeat (first | refine WR.seq ?_ | refine WR.block ?_ | refine WR.scope ?_ | refine WR.skip ?_ | refine WR.exit ?_ | refine WR.condT rfl ?_ | refine WR.condF rfl ?_ | refine WR.reg (WQ.runS [] 1000 _ _ _ _ rfl ?_) | refine WQ.nilS ?_ | refine WR.dreg hmix (DW.runS [] 1000 _ _ _ _ _ _ rfl ?_))
  refine WQ.callH rfl rfl rfl rfl rfl (areaB (hd_at rfl rfl rfl rfl rfl)) .base rfl (WQ.runS [] 1000 _ _ _ _ rfl ?_)
  repeat (first | refine WR.seq ?_ | refine WR.block ?_ | refine WR.scope ?_ | refine WR.skip ?_ | refine WR.exit ?_ | refine WR.condT rfl ?_ | refine WR.condF rfl ?_ | refine WR.reg (WQ.runS [] 1000 _ _ _ _ rfl ?_) | refine WQ.nilS ?_ | refine WR.dreg hmix (DW.runS [] 1000 _ _ _ _ _ _ rfl ?_))
  refine WR.reg (WQ.runS [] 3 _ _ _ _ rfl ?_)
  rw [neg_self]
  refine WQ.runS [] 4 _ _ _ _ rfl ?_
  rw [neg_self]
  refine WQ.runS [] 1000 _ _ _ _ rfl (WQ.nilS ?_)
  repeat (first | refine WR.seq ?_ | refine WR.block ?_ | refine WR.scope ?_ | refine WR.skip ?_ | refine WR.exit ?_ | refine WR.condT rfl ?_ | refine WR.condF rfl ?_ | refine WR.reg (WQ.runS [] 1000 _ _ _ _ rfl ?_) | refine WQ.nilS ?_ | refine WR.dreg hmix (DW.runS [] 1000 _ _ _ _ _ _ rfl ?_))
  refine WIr.again (WLr.of ?_)
  repeat (first | refine WR.seq ?_ | refine WR.block ?_ | refine WR.scope ?_ | refine WR.skip ?_ | refine WR.exit ?_ | refine WR.condT rfl ?_ | refine WR.condF rfl ?_ | refine WR.reg (WQ.runS [] 1000 _ _ _ _ rfl ?_) | refine WQ.nilS ?_ | refine WR.dreg hmix (DW.runS [] 1000 _ _ _ _ _ _ rfl ?_))
  refine WQ.callH rfl rfl rfl rfl rfl (areaA (hd_at rfl rfl rfl rfl rfl)) .base rfl (WQ.runS [] 1000 _ _ _ _ rfl ?_)
  repeat (first | refine WR.seq ?_ | refine WR.block ?_ | refine WR.scope ?_ | refine WR.skip ?_ | refine WR.exit ?_ | refine WR.condT rfl ?_ | refine WR.condF rfl ?_ | refine WR.reg (WQ.runS [] 1000 _ _ _ _ rfl ?_) | refine WQ.nilS ?_ | refine WR.dreg hmix (DW.runS [] 1000 _ _ _ _ _ _ rfl ?_))
  refine WQ.callH rfl rfl rfl rfl rfl (areaB (hd_at rfl rfl rfl rfl rfl)) .base rfl (WQ.runS [] 1000 _ _ _ _ rfl ?_)
  repeat (first | refine WR.seq ?_ | refine WR.block ?_ | refine WR.scope ?_ | refine WR.skip ?_ | refine WR.exit ?_ | refine WR.condT rfl ?_ | refine WR.condF rfl ?_ | refine WR.reg (WQ.runS [] 1000 _ _ _ _ rfl ?_) | refine WQ.nilS ?_ | refine WR.dreg hmix (DW.runS [] 1000 _ _ _ _ _ _ rfl ?_))
  refine WR.reg (WQ.runS [] 3 _ _ _ _ rfl ?_)
  rw [neg_self]
  refine WQ.runS [] 4 _ _ _ _ rfl ?_
  rw [neg_self]
  refine WQ.runS [] 1000 _ _ _ _ rfl (WQ.nilS ?_)
  repeat (first | refine WR.seq ?_ | refine WR.block ?_ | refine WR.scope ?_ | refine WR.skip ?_ | refine WR.exit ?_ | refine WR.condT rfl ?_ | refine WR.condF rfl ?_ | refine WR.reg (WQ.runS [] 1000 _ _ _ _ rfl ?_) | refine WQ.nilS ?_ | refine WR.dreg hmix (DW.runS [] 1000 _ _ _ _ _ _ rfl ?_))
  refine WIr.again (WLr.of ?_)
  repeat (first | refine WR.seq ?_ | refine WR.block ?_ | refine WR.scope ?_ | refine WR.skip ?_ | refine WR.exit ?_ | refine WR.condT rfl ?_ | refine WR.condF rfl ?_ | refine WR.reg (WQ.runS [] 1000 _ _ _ _ rfl ?_) | refine WQ.nilS ?_ | refine WR.dreg hmix (DW.runS [] 1000 _ _ _ _ _ _ rfl ?_))
  refine WQ.callH rfl rfl rfl rfl rfl (nowA (hd_at rfl rfl rfl rfl rfl)) .base rfl (WQ.runS [] 1000 _ _ _ _ rfl ?_)
  repeat (first | refine WR.seq ?_ | refine WR.block ?_ | refine WR.scope ?_ | refine WR.skip ?_ | refine WR.exit ?_ | refine WR.condT rfl ?_ | refine WR.condF rfl ?_ | refine WR.reg (WQ.runS [] 1000 _ _ _ _ rfl ?_) | refine WQ.nilS ?_ | refine WR.dreg hmix (DW.runS [] 1000 _ _ _ _ _ _ rfl ?_))
  refine WQ.callH rfl rfl rfl rfl rfl (nowB (hd_at rfl rfl rfl rfl rfl)) .base rfl (WQ.runS [] 1000 _ _ _ _ rfl ?_)
  repeat (first | refine WR.seq ?_ | refine WR.block ?_ | refine WR.scope ?_ | refine WR.skip ?_ | refine WR.exit ?_ | refine WR.condT rfl ?_ | refine WR.condF rfl ?_ | refine WR.reg (WQ.runS [] 1000 _ _ _ _ rfl ?_) | refine WQ.nilS ?_ | refine WR.dreg hmix (DW.runS [] 1000 _ _ _ _ _ _ rfl ?_))
  refine DW.callH (by repeat (first | exact .nil | refine PendR.passM rfl ?_ | refine PendR.sameM rfl ?_ | refine PendR.lightM rfl ?_)) rfl rfl rfl rfl rfl (writesA hws (hd_at rfl rfl rfl rfl rfl)) .base rfl (DW.runS [] 1000 _ _ _ _ _ _ rfl ?_)
  refine DW.callH (by repeat (first | exact .nil | refine PendR.passM rfl ?_ | refine PendR.sameM rfl ?_ | refine PendR.lightM rfl ?_)) rfl rfl rfl rfl rfl (same_spec d.ws hws _ _ _) .base rfl (DW.runS [] 1000 _ _ _ _ _ _ rfl (DW.finS (by repeat (first | exact .nil | refine PendR.passM rfl ?_ | refine PendR.sameM rfl ?_ | refine PendR.lightM rfl ?_)) ?_))
  repeat (first | refine WR.seq ?_ | refine WR.block ?_ | refine WR.scope ?_ | refine WR.skip ?_ | refine WR.exit ?_ | refine WR.condT rfl ?_ | refine WR.condF rfl ?_ | refine WR.reg (WQ.runS [] 1000 _ _ _ _ rfl ?_) | refine WQ.nilS ?_ | refine WR.dreg hmix (DW.runS [] 1000 _ _ _ _ _ _ rfl ?_))
  refine WR.reg (WQ.runS [] 3 _ _ _ _ rfl ?_)
  rw [neg_self]
  refine WQ.runS [] 4 _ _ _ _ rfl ?_
  rw [neg_self]
  refine WQ.runS [] 1000 _ _ _ _ rfl (WQ.nilS ?_)
  repeat (first | refine WR.seq ?_ | refine WR.block ?_ | refine WR.scope ?_ | refine WR.skip ?_ | refine WR.exit ?_ | refine WR.condT rfl ?_ | refine WR.condF rfl ?_ | refine WR.reg (WQ.runS [] 1000 _ _ _ _ rfl ?_) | refine WQ.nilS ?_ | refine WR.dreg hmix (DW.runS [] 1000 _ _ _ _ _ _ rfl ?_))
  exact hn _ _ rfl rfl rfl rfl

/-- what holds of both disks at the head of a round. -/
structure Inv (i : Nat) (d : Dk) : Prop where
  ws : d.ws.length ≤ i
  fuse : d.fuse < 9223372036854775808
  a0 : d.a0.length ≤ 1000 * i
  a1 : d.a1.length ≤ 1000 * i

theorem Inv.fit {i : Nat} {d : Dk} (h : Inv i d) (hi : i < 200) {n : Nat} (hn : n ≤ 1000) : Fit d n := by
  obtain ⟨h1, h2, h3, h4⟩ := h
  exact ⟨by omega, h2, by unfold lim; omega, by unfold lim; omega⟩

theorem Inv.up {i : Nat} {d : Dk} (h : Inv i d) : Inv (i + 1) d := ⟨by have := h.ws; omega, h.fuse, by have := h.a0; omega, by have := h.a1; omega⟩

theorem write_le (d : Dk) (w : Wr) : (write d w).1.ws.length ≤ d.ws.length + 1 ∧ (write d w).1.fuse ≤ d.fuse ∧ (write d w).1.a0.length ≤ d.a0.length + w.data.length ∧ (write d w).1.a1.length ≤ d.a1.length + w.data.length := by
  unfold write
  split
  · simp
  · split
    · simp
    · split
      · simp
      · have key : ∀ d1 : Dk, d1.ws.length = d.ws.length → d1.fuse ≤ d.fuse → d1.a0 = d.a0 → d1.a1 = d.a1 → (done d1 w).1.ws.length ≤ d.ws.length + 1 ∧ (done d1 w).1.fuse ≤ d.fuse ∧ (done d1 w).1.a0.length ≤ d.a0.length + w.data.length ∧ (done d1 w).1.a1.length ≤ d.a1.length + w.data.length := by
          intro d1 e1 e2 e3 e4
          obtain ⟨g1, g2, g3, g4⟩ := done_le d1 w
          rw [e3] at g3
          rw [e4] at g4
          exact ⟨by omega, by omega, g3, g4⟩
        split
        · exact key _ rfl (by simp; omega) rfl rfl
        · exact key _ rfl (Int.le_refl _) rfl rfl

theorem plain_le (w : Wr) : (plainF w).data.length ≤ w.data.length := by
  unfold plainF
  split
  · simp
  · split <;> simp

theorem Inv.write {i : Nat} {d : Dk} (h : Inv i d) {w : Wr} (hw : w.data.length ≤ 1000) : Inv (i + 1) (write d (plainF w)).1 := by
  obtain ⟨h1, h2, h3, h4⟩ := h
  obtain ⟨g1, g2, g3, g4⟩ := write_le d (plainF w)
  have := plain_le w
  exact ⟨by omega, by omega, by omega, by omega⟩

theorem Inv.fuseF {i : Nat} {d : Dk} (h : Inv i d) {n : Int} (hn : n < 9223372036854775808) : Inv (i + 1) (fuseF d n).1 := by
  obtain ⟨h1, h2, h3, h4⟩ := h
  unfold VM.fuseF
  split
  · exact ⟨by simp; omega, h2, by simp; omega, by simp; omega⟩
  · exact ⟨by simp; omega, by simp only; split <;> omega, by simp; omega, by simp; omega⟩

theorem Inv.powerF {i : Nat} {d : Dk} (h : Inv i d) : Inv (i + 1) (powerF d) := by
  obtain ⟨h1, h2, h3, h4⟩ := h
  exact ⟨by simp [VM.powerF]; omega, by simp [VM.powerF], by simp [VM.powerF]; omega, by simp [VM.powerF]; omega⟩

theorem plays_loop (l : List Cl) (hl : ∀ c ∈ l, c.n < 9223372036854775808) {QN : S → Prop} {QX : X → S → Prop} (hx : ∀ tm d lc, QX (.exit 0) (SL.toS ⟨tm, [], none, 1004, ol2 d, lc⟩)) : ∀ (n i : Nat) (d : Dk), i + n = min l.length 200 → Inv i d →
    WLr Go.Proofs.Try.prog [] fr4 rc4_L2 (SL.toS ⟨pTm l i, [], none, 1004, ol2 d, []⟩) QN QX := by
  intro n
  induction n with
  | zero =>
    intro i d hi inv
    unfold rc4_L2
    refine WLr.of ?_
    refine WR.seq (WR.seq (WR.reg (WQ.runS [] 5 _ _ _ _ rfl ?_)))
    refine WQ.guard 36 rfl (fun hb => ?_) (fun hb => ?_) <;> rw [hb]
    · have hb := of_decide_eq_true hb
      simp at hb
      refine WQ.runS [] 1000 _ _ _ _ rfl (WQ.nilS ?_)
      refine WR.cond rfl (fun h2 => ?_) (fun h2 => ?_)
      · have h2 := of_decide_eq_true h2
        omega
      · repeat (first | refine WR.seq ?_ | refine WR.block ?_ | refine WR.scope ?_ | refine WR.skip ?_ | refine WR.exit ?_ | refine WR.condT rfl ?_ | refine WR.condF rfl ?_ | refine WR.reg (WQ.runS [] 1000 _ _ _ _ rfl ?_) | refine WQ.nilS ?_ | refine WR.dreg hmix (DW.runS [] 1000 _ _ _ _ _ _ rfl ?_))
        exact hx _ d _
    · refine WQ.runS [] 1000 _ _ _ _ rfl (WQ.nilS ?_)
      repeat (first | refine WR.seq ?_ | refine WR.block ?_ | refine WR.scope ?_ | refine WR.skip ?_ | refine WR.exit ?_ | refine WR.condT rfl ?_ | refine WR.condF rfl ?_ | refine WR.reg (WQ.runS [] 1000 _ _ _ _ rfl ?_) | refine WQ.nilS ?_ | refine WR.dreg hmix (DW.runS [] 1000 _ _ _ _ _ _ rfl ?_))
      exact hx _ d _
  | succ n ih =>
    intro i d hi inv
    have hlt : i < l.length := by omega
    have hg : (l.map encC)[i]? = some (encC l[i]) := by simp [hlt]
    have hq := hl l[i] (by simp)
    generalize l[i] = c at hg hq
    obtain ⟨kd, ⟨k, a, x⟩, m⟩ := c
    unfold rc4_L2
    refine WLr.of ?_
    refine WR.seq (WR.seq (WR.reg (WQ.runS [] 5 _ _ _ _ rfl ?_)))
    rw [show decide ((i : Int) < ((l.map encC).length : Nat)) = true from decide_eq_true (by simp; omega)]
    refine WQ.runS [] 2 _ _ _ _ rfl ?_
    rw [show decide ((i : Int) < 200) = true from decide_eq_true (by omega)]
    refine WQ.runS [] 1000 _ _ _ _ rfl (WQ.nilS ?_)
    refine WR.condT rfl (WR.skip (WR.seq ?_))
    have hnext : ∀ tm lc d', Inv (i + 1) d' → tg tm 0 = some (.v (.lst (l.map encC) .unk)) → tg tm 4 = some (.v (.ptr 1000 0)) → tg tm 5 = some (.v (.ptr 1002 0)) → tg tm 6 = some (.v (.int .i64 i)) → WR Go.Proofs.Try.prog [] fr4 rc4_J4 (SL.toS ⟨tm, [], none, 1004, ol2 d', lc⟩) (fun s1 => WIr Go.Proofs.Try.prog [] fr4 rc4_L2 s1 QN QX) QX := by
      intro tm lc d' hinv g0 g4 g5 g6
      refine WR.weak (s := SL.toS ⟨pTm l i, [], none, 1004, ol2 d', []⟩) (SW.tellR (.cons g0 (.v (VLe.refl _)) (.cons g4 (.v (VLe.refl _)) (.cons g5 (.v (VLe.refl _)) (.cons g6 (.v (VLe.refl _)) .nil)))) .nil) ?_
      unfold rc4_J4
      repeat (first | refine WR.seq ?_ | refine WR.block ?_ | refine WR.scope ?_ | refine WR.skip ?_ | refine WR.exit ?_ | refine WR.condT rfl ?_ | refine WR.condF rfl ?_ | refine WR.reg (WQ.runS [] 1000 _ _ _ _ rfl ?_) | refine WQ.nilS ?_ | refine WR.dreg hmix (DW.runS [] 1000 _ _ _ _ _ _ rfl ?_))
      rw [wrapS i (by omega)]
      refine WIr.again (WLr.weak (s := SL.toS ⟨pTm l (i + 1), [], none, 1004, ol2 d', []⟩) ?_ ?_)
      · refine SW.tellR ?_ ?_
        · repeat (first | exact .nil | refine .cons rfl (.v (VLe.refl _)) ?_ | refine .cons rfl (.l _ _ rfl) ?_ | refine .cons rfl (.v (VLe.unk _ _)) ?_)
        · repeat (first | exact .nil | refine .cons rfl (.inl rfl) ?_)
      exact ih (i + 1) d' (by omega) hinv
    refine WR.block (WR.seq (WR.reg ?_))
    refine WQ.runS [] 2 _ _ _ _ rfl (WQ.lightS rfl rfl rfl (ia_at rfl rfl hg rfl) rfl ?_)
    refine WQ.runS [] 1000 _ _ _ _ rfl (WQ.nilS ?_)
    refine WR.seq (WR.seq (WR.reg (WQ.runS [] 1000 _ _ _ _ rfl (WQ.nilS ?_))))
    refine WR.cond rfl (fun h2 => ?_) (fun h2 => ?_)
    · refine WR.exit ?_
      exact hnext _ _ _ inv.up rfl rfl rfl rfl
    have h2 : ¬ ((x.length : Int) > 1000) := of_decide_eq_false h2
    refine WR.skip (WR.seq (WR.seq (WR.reg (WQ.runS [] 1000 _ _ _ _ rfl (WQ.nilS ?_)))))
    refine WR.block (WR.seq (WR.reg (WQ.runS [] 1000 _ _ _ _ rfl (WQ.nilS ?_))))
    refine WR.cond rfl (fun c1 => ?_) (fun c1 => ?_)
    · refine WR.seq (WR.reg (WQ.runS [] 2 _ _ _ _ rfl ?_))
      refine WQ.callH rfl rfl rfl rfl rfl (plain_spec k a x _) .base rfl (WQ.runS [] 1000 _ _ _ _ rfl (WQ.nilS ?_))
      have hw1 : x.length ≤ 1000 := by omega
      have inv1 := inv.write (w := ⟨k, a, x⟩) hw1
      have ftw : Fit d (Wr.data ⟨k, a, x⟩).length := inv.fit (by omega) hw1
      have ftp : Fit d (plainF ⟨k, a, x⟩).data.length := inv.fit (by omega) (Nat.le_trans (plain_le _) hw1)
      refine WR.seq (WR.dreg hmix (DW.runS [] 1000 _ _ _ _ _ _ rfl ?_))
      refine DW.callH (by repeat (first | exact .nil | refine PendR.passM rfl ?_ | refine PendR.sameM rfl ?_ | refine PendR.lightM rfl ?_)) rfl rfl rfl rfl rfl (disk_lift (wrote_core d ⟨k, a, x⟩ ftw) (by exact ⟨encW_in _, trivial⟩) trivial (hd_at (t := 1001) rfl rfl rfl rfl rfl)) (.put (.put .base rfl) rfl) rfl (DW.runS [] 1000 _ _ _ _ _ _ rfl ?_)
      refine DW.callH (by repeat (first | exact .nil | refine PendR.passM rfl ?_ | refine PendR.sameM rfl ?_ | refine PendR.lightM rfl ?_)) rfl rfl rfl rfl rfl (do_call ftp (hd_at (b := 1002) (t := 1003) rfl rfl rfl rfl rfl)) (.put (.put .base rfl) rfl) rfl (DW.runS [] 1000 _ _ _ _ _ _ rfl (DW.finS (by repeat (first | exact .nil | refine PendR.passM rfl ?_ | refine PendR.sameM rfl ?_ | refine PendR.lightM rfl ?_)) ?_))
      refine WR.cond rfl (fun h3 => ?_) (fun h3 => ?_)
      · simp at h3
      refine WR.skip ?_
      refine WR.weak (s := SL.toS ⟨pTm l i, [], none, 1004, ol2 (write d (plainF ⟨k, a, x⟩)).1, []⟩) ?_ (plays_rest l i (write d (plainF ⟨k, a, x⟩)).1 (by omega) (by have := (inv1).ws; omega) (fun tm lc g0 g4 g5 g6 => ?_))
      · refine SW.tellR ?_ ?_
        · repeat (first | exact .nil | refine .cons rfl (.v (VLe.refl _)) ?_ | refine .cons rfl (.l _ _ rfl) ?_ | refine .cons rfl (.v (VLe.unk _ _)) ?_)
        · repeat (first | exact .nil | refine .cons rfl (.inl rfl) ?_)
      exact hnext _ _ _ (inv1) g0 g4 g5 g6
    refine WR.seq (WR.reg (WQ.runS [] 1000 _ _ _ _ rfl (WQ.nilS ?_)))
    refine WR.cond rfl (fun c2 => ?_) (fun c2 => ?_)
    · have inv1 := inv.fuseF (n := m) hq
      refine WR.seq (WR.dreg hmix (DW.runS [] 1000 _ _ _ _ _ _ rfl ?_))
      refine DW.callH (by repeat (first | exact .nil | refine PendR.passM rfl ?_ | refine PendR.sameM rfl ?_ | refine PendR.lightM rfl ?_)) rfl rfl rfl rfl rfl (disk_lift (fuse_core d m) (by exact ⟨trivial, trivial⟩) trivial (hd_at (t := 1001) rfl rfl rfl rfl rfl)) (.put (.put .base rfl) rfl) rfl (DW.runS [] 1000 _ _ _ _ _ _ rfl ?_)
      refine DW.callH (by repeat (first | exact .nil | refine PendR.passM rfl ?_ | refine PendR.sameM rfl ?_ | refine PendR.lightM rfl ?_)) rfl rfl rfl rfl rfl (disk_lift (setFuse_core d m) (by exact ⟨trivial, trivial⟩) trivial (hd_at (t := 1003) rfl rfl rfl rfl rfl)) (.put (.put .base rfl) rfl) rfl (DW.runS [] 1000 _ _ _ _ _ _ rfl (DW.finS (by repeat (first | exact .nil | refine PendR.passM rfl ?_ | refine PendR.sameM rfl ?_ | refine PendR.lightM rfl ?_)) ?_))
      refine WR.cond rfl (fun h3 => ?_) (fun h3 => ?_)
      · simp at h3
      refine WR.skip ?_
      refine WR.weak (s := SL.toS ⟨pTm l i, [], none, 1004, ol2 (fuseF d m).1, []⟩) ?_ (plays_rest l i (fuseF d m).1 (by omega) (by have := (inv1).ws; omega) (fun tm lc g0 g4 g5 g6 => ?_))
      · refine SW.tellR ?_ ?_
        · repeat (first | exact .nil | refine .cons rfl (.v (VLe.refl _)) ?_ | refine .cons rfl (.l _ _ rfl) ?_ | refine .cons rfl (.v (VLe.unk _ _)) ?_)
        · repeat (first | exact .nil | refine .cons rfl (.inl rfl) ?_)
      exact hnext _ _ _ (inv1) g0 g4 g5 g6
    refine WR.seq (WR.reg (WQ.runS [] 1000 _ _ _ _ rfl (WQ.nilS ?_)))
    refine WR.cond rfl (fun c3 => ?_) (fun c3 => ?_)
    · have inv1 := inv.powerF
      refine WR.seq (WR.reg (WQ.runS [] 1000 _ _ _ _ rfl ?_))
      refine WQ.callH rfl rfl rfl rfl rfl (disk_lift (powerR_core d) (by exact trivial) trivial (hd_at (t := 1003) rfl rfl rfl rfl rfl)) (.put (.put .base rfl) rfl) rfl (WQ.runS [] 1000 _ _ _ _ rfl (WQ.nilS ?_))
      refine WR.seq (WR.reg (WQ.runS [] 1000 _ _ _ _ rfl ?_))
      refine WQ.callH rfl rfl rfl rfl rfl (disk_lift (power_core d) (by exact trivial) trivial (hd_at (t := 1001) rfl rfl rfl rfl rfl)) (.put (.put .base rfl) rfl) rfl (WQ.runS [] 1000 _ _ _ _ rfl (WQ.nilS ?_))
      refine WR.condF rfl (WR.skip ?_)
      refine WR.weak (s := SL.toS ⟨pTm l i, [], none, 1004, ol2 (powerF d), []⟩) ?_ (plays_rest l i (powerF d) (by omega) (by have := (inv1).ws; omega) (fun tm lc g0 g4 g5 g6 => ?_))
      · refine SW.tellR ?_ ?_
        · repeat (first | exact .nil | refine .cons rfl (.v (VLe.refl _)) ?_ | refine .cons rfl (.l _ _ rfl) ?_ | refine .cons rfl (.v (VLe.unk _ _)) ?_)
        · repeat (first | exact .nil | refine .cons rfl (.inl rfl) ?_)
      exact hnext _ _ _ (inv1) g0 g4 g5 g6
    refine WR.seq (WR.reg (WQ.runS [] 1000 _ _ _ _ rfl (WQ.nilS ?_)))
    refine WR.cond rfl (fun c4 => ?_) (fun c4 => ?_)
    · have inv1 := inv.up
      repeat (first | refine WR.seq ?_ | refine WR.block ?_ | refine WR.scope ?_ | refine WR.skip ?_ | refine WR.exit ?_ | refine WR.condT rfl ?_ | refine WR.condF rfl ?_ | refine WR.reg (WQ.runS [] 1000 _ _ _ _ rfl ?_) | refine WQ.nilS ?_ | refine WR.dreg hmix (DW.runS [] 1000 _ _ _ _ _ _ rfl ?_))
      refine WQ.callH rfl rfl rfl rfl rfl (areaA (hd_at rfl rfl rfl rfl rfl)) .base rfl (WQ.runS [] 1000 _ _ _ _ rfl ?_)
      repeat (first | refine WR.seq ?_ | refine WR.block ?_ | refine WR.scope ?_ | refine WR.skip ?_ | refine WR.exit ?_ | refine WR.condT rfl ?_ | refine WR.condF rfl ?_ | refine WR.reg (WQ.runS [] 1000 _ _ _ _ rfl ?_) | refine WQ.nilS ?_ | refine WR.dreg hmix (DW.runS [] 1000 _ _ _ _ _ _ rfl ?_))
      refine WQ.callH rfl rfl rfl rfl rfl (areaB (hd_at rfl rfl rfl rfl rfl)) .base rfl (WQ.runS [] 1000 _ _ _ _ rfl ?_)
      repeat (first | refine WR.seq ?_ | refine WR.block ?_ | refine WR.scope ?_ | refine WR.skip ?_ | refine WR.exit ?_ | refine WR.condT rfl ?_ | refine WR.condF rfl ?_ | refine WR.reg (WQ.runS [] 1000 _ _ _ _ rfl ?_) | refine WQ.nilS ?_ | refine WR.dreg hmix (DW.runS [] 1000 _ _ _ _ _ _ rfl ?_))
      refine WR.reg (WQ.runS [] 3 _ _ _ _ rfl ?_)
      rw [neg_self]
      refine WQ.runS [] 4 _ _ _ _ rfl ?_
      rw [neg_self]
      refine WQ.runS [] 1000 _ _ _ _ rfl (WQ.nilS ?_)
      refine WR.condF rfl (WR.skip ?_)
      refine WR.weak (s := SL.toS ⟨pTm l i, [], none, 1004, ol2 d, []⟩) ?_ (plays_rest l i d (by omega) (by have := (inv1).ws; omega) (fun tm lc g0 g4 g5 g6 => ?_))
      · refine SW.tellR ?_ ?_
        · repeat (first | exact .nil | refine .cons rfl (.v (VLe.refl _)) ?_ | refine .cons rfl (.l _ _ rfl) ?_ | refine .cons rfl (.v (VLe.unk _ _)) ?_)
        · repeat (first | exact .nil | refine .cons rfl (.inl rfl) ?_)
      exact hnext _ _ _ (inv1) g0 g4 g5 g6
    refine WR.skip ?_
    have inv1 := inv.up
    refine WR.weak (s := SL.toS ⟨pTm l i, [], none, 1004, ol2 d, []⟩) ?_ (plays_rest l i d (by omega) (by have := (inv1).ws; omega) (fun tm lc g0 g4 g5 g6 => ?_))
    · refine SW.tellR ?_ ?_
      · repeat (first | exact .nil | refine .cons rfl (.v (VLe.refl _)) ?_ | refine .cons rfl (.l _ _ rfl) ?_ | refine .cons rfl (.v (VLe.unk _ _)) ?_)
      · repeat (first | exact .nil | refine .cons rfl (.inl rfl) ?_)
    exact hnext _ _ _ (inv1) g0 g4 g5 g6

theorem plays_spec (l : List Cl) (hl : ∀ c ∈ l, c.n < 9223372036854775808) (h : H) : SCall Go.Proofs.Try.prog [] 4 [.lst (l.map encC) .unk] none h (.ret (.bool true)) none h := by
  refine SCall.pure0 rfl ?_ (by exact ⟨⟨Inss_map fun c _ => encC_in c, trivial⟩, trivial⟩) (by exact trivial) h
  refine SCall.listed (fn := Go.Proofs.Try.f4) (by kernel_rfl) res4 (by kernel_rfl) (by kernel_rfl) ((by decide)) rfl (trivial) trivial ?_
  unfold rc4
  refine WR.seq (WR.reg (WQ.runS [] 1000 _ _ _ _ rfl (WQ.nilS ?_)))
  refine WR.seq (WR.reg (WQ.callH rfl rfl rfl rfl rfl (awake_spec _) .base rfl (WQ.runS [] 1000 _ _ _ _ rfl (WQ.nilS ?_))))
  refine WR.seq (WR.reg (WQ.callH rfl rfl rfl rfl rfl (new_call _) (.new (.new .base rfl) rfl) rfl (WQ.runS [] 1000 _ _ _ _ rfl (WQ.nilS ?_))))
  refine WR.seq (WR.reg (WQ.callH rfl rfl rfl rfl rfl (newR_call _) (.new (.new .base rfl) rfl) rfl (WQ.runS [] 1000 _ _ _ _ rfl (WQ.nilS ?_))))
  repeat (first | refine WR.seq ?_ | refine WR.block ?_ | refine WR.scope ?_ | refine WR.skip ?_ | refine WR.exit ?_ | refine WR.condT rfl ?_ | refine WR.condF rfl ?_ | refine WR.reg (WQ.runS [] 1000 _ _ _ _ rfl ?_) | refine WQ.nilS ?_ | refine WR.dreg hmix (DW.runS [] 1000 _ _ _ _ _ _ rfl ?_))
  refine WR.loop (WLr.weak (s := SL.toS ⟨pTm l 0, [], none, 1004, ol2 d0, []⟩) ?_ (plays_loop l hl (fun tm d lc => ?_) (min l.length 200) 0 d0 (by omega) ⟨by simp [d0], by simp [d0], by simp [d0], by simp [d0]⟩))
  · refine SW.tellR ?_ ?_
    · repeat (first | exact .nil | refine .cons rfl (.v (VLe.refl _)) ?_ | refine .cons rfl (.l _ _ rfl) ?_ | refine .cons rfl (.v (VLe.unk _ _)) ?_)
    · repeat (first | exact .nil | refine .cons rfl (.inl rfl) ?_)
  show WR Go.Proofs.Try.prog [] _ _ _ _ _
  unfold rc4_J5
  refine WR.seq (WR.reg (WQ.runS [] 1000 _ _ _ _ rfl (WQ.nilS ?_)))
  exact WR.ret (ret4 rfl (og_low rfl))
end Go.VM
