/- The law DiskAlone, where what it reads is not too much. -/
import Derived.Test.YtdmpeinbbcjamaaVtFuses
set_option maxRecDepth 100000
set_option linter.unusedVariables false
set_option linter.unusedSimpArgs false
namespace Go.VM
open Go.RowKit

noncomputable abbrev fr8 : Fr := ⟨Go.Proofs.Try.f8.ntmps, none, 8⟩

theorem ret8 {tm : TM} {ol : OL} {nx : Nat} {lc : LM} (h : tg tm 4 = some (.v (.bool true))) (hol : ∀ b, b < 1000 → og ol b = none) : retX (RetS Go.Proofs.Try.prog Go.Proofs.Try.f8 (.bool true) 1000 []) .ret (SL.toS ⟨tm, [], none, nx, ol, lc⟩) := by
  refine ⟨rfl, rfl, ⟨[.bool true], ?_, VLe.refl _⟩, fun b hb => (hol b hb).symm⟩
  show resV Go.Proofs.Try.prog _ _ [.tmp 4] = _
  simp only [resV, SL.toS, h]

theorem eq_self_d {α : Type} (a : α) [Decidable (a = a)] : decide (a = a) = true := decide_eq_true rfl

theorem areaC0 {d : Dk} {b t : Nat} {h : H} (q : d.off = false) (hd : HD h b t d) : SCall Go.Proofs.Try.prog [] 19 [.ptr b 0, .int .i64 0] none h (.ret (.tup [.str d.a0, .int .i64 0])) none h :=
  disk_read (area0_core q) ⟨trivial, trivial⟩ ⟨trivial, trivial, trivial⟩ hd
theorem areaC1 {d : Dk} {b t : Nat} {h : H} (q : d.off = false) (hd : HD h b t d) : SCall Go.Proofs.Try.prog [] 19 [.ptr b 0, .int .i64 1] none h (.ret (.tup [.str d.a1, .int .i64 0])) none h :=
  disk_read (area1_core q) ⟨trivial, trivial⟩ ⟨trivial, trivial, trivial⟩ hd
theorem nowC {d : Dk} {b t : Nat} {h : H} (q : d.off = false) (hd : HD h b t d) : SCall Go.Proofs.Try.prog [] 21 [.ptr b 0] none h (.ret (.tup [.int .i64 d.root, .int .i64 0])) none h :=
  disk_read (now0_core q) trivial ⟨trivial, trivial, trivial⟩ hd

theorem replayF_size : ∀ {l : List Wr} {d d' : Dk} {e : Int}, replayF l d = (some d', e) → d'.a0.length ≤ d.a0.length + dl l ∧ d'.a1.length ≤ d.a1.length + dl l
  | [], d, d', e, h => by simp only [replayF] at h; cases h; simp [dl]
  | w :: r, d, d', e, h => by
    simp only [replayF] at h
    split at h
    · cases h
    · split at h
      · cases h
      · have := replayF_size h
        have := write_le d w
        simp only [dl]; omega

theorem alone_spec (l : List Wr) (w : Wr) (hl : l.length ≤ 999999) (hdl : dl l ≤ 1048576) (hw : w.data.length ≤ 1048576) (h : H) : SCall Go.Proofs.Try.prog [] 8 [.lst (l.map encW) .unk, .agg (encW w)] none h (.ret (.bool true)) none h := by
  obtain ⟨wk, wa, wx⟩ := w
  refine SCall.pure0 rfl ?_ (by exact ⟨⟨encWs_in l, trivial⟩, encW_in _, trivial⟩) (by exact trivial) h
  refine SCall.listed (fn := Go.Proofs.Try.f8) (by kernel_rfl) res8 (by kernel_rfl) (by kernel_rfl) ((by decide)) rfl (trivial) trivial ?_
  unfold rc8
  refine WR.seq (WR.reg (WQ.runS [] 1000 _ _ _ _ rfl (WQ.nilS ?_)))
  refine WR.seq (WR.reg (WQ.callH rfl rfl rfl rfl rfl (awake_spec _) .base rfl (WQ.runS [] 1000 _ _ _ _ rfl (WQ.nilS ?_))))
  refine WR.seq (WR.reg (WQ.runS [] 1 _ _ _ _ rfl ?_))
  rcases hrp : replayF l d0 with ⟨o, e⟩
  cases o with
  | none =>
    refine WQ.callH rfl rfl rfl rfl rfl (replay_none l _ hl (by unfold lim; omega) hrp _) .base rfl (WQ.runS [] 1000 _ _ _ _ rfl (WQ.nilS ?_))
    refine WR.seq (WR.seq (WR.reg (WQ.runS [] 8 _ _ _ _ rfl ?_)))
    refine WQ.guard 34 rfl (fun hb => ?_) (fun hb => ?_) <;> rw [hb]
    · refine WQ.runS [] 1000 _ _ _ _ rfl (WQ.nilS ?_)
      refine WR.condT rfl ?_
      repeat (first | refine WR.seq ?_ | refine WR.block ?_ | refine WR.scope ?_ | refine WR.skip ?_ | refine WR.exit ?_ | refine WR.condT rfl ?_ | refine WR.condF rfl ?_ | refine WR.reg (WQ.runS [] 1000 _ _ _ _ rfl ?_) | refine WQ.nilS ?_ | refine WR.dreg hmix (DW.runS [] 1000 _ _ _ _ _ _ rfl ?_))
      exact WR.ret (ret8 rfl (og_low rfl))
    · refine WQ.runS [] 1000 _ _ _ _ rfl (WQ.nilS ?_)
      refine WR.condT rfl ?_
      repeat (first | refine WR.seq ?_ | refine WR.block ?_ | refine WR.scope ?_ | refine WR.skip ?_ | refine WR.exit ?_ | refine WR.condT rfl ?_ | refine WR.condF rfl ?_ | refine WR.reg (WQ.runS [] 1000 _ _ _ _ rfl ?_) | refine WQ.nilS ?_ | refine WR.dreg hmix (DW.runS [] 1000 _ _ _ _ _ _ rfl ?_))
      exact WR.ret (ret8 rfl (og_low rfl))
  | some d =>
    obtain ⟨rfl, q1, q2, q3⟩ := replayF_ok rfl rfl hrp
    have q3 : d.ws = l := by simpa [d0] using q3
    have hsz := replayF_size hrp
    simp only [d0, List.length_nil] at hsz
    refine WQ.callH rfl rfl rfl rfl rfl (replay_some l _ hl (by unfold lim; omega) hrp _) (.new (.new .base rfl) rfl) rfl (WQ.runS [] 1000 _ _ _ _ rfl (WQ.nilS ?_))
    refine WR.seq (WR.seq (WR.reg (WQ.runS [] 8 _ _ _ _ rfl ?_)))
    refine WQ.guard 34 rfl (fun hb => ?_) (fun hb => ?_) <;> rw [hb]
    · refine WQ.runS [] 1000 _ _ _ _ rfl (WQ.nilS ?_)
      refine WR.condT rfl ?_
      repeat (first | refine WR.seq ?_ | refine WR.block ?_ | refine WR.scope ?_ | refine WR.skip ?_ | refine WR.exit ?_ | refine WR.condT rfl ?_ | refine WR.condF rfl ?_ | refine WR.reg (WQ.runS [] 1000 _ _ _ _ rfl ?_) | refine WQ.nilS ?_ | refine WR.dreg hmix (DW.runS [] 1000 _ _ _ _ _ _ rfl ?_))
      exact WR.ret (ret8 rfl (og_low rfl))
    refine WQ.runS [] 1000 _ _ _ _ rfl (WQ.nilS ?_)
    refine WR.condF rfl (WR.skip ?_)
    refine WR.seq (WR.reg (WQ.runS [] 1 _ _ _ _ rfl ?_))
    refine WQ.callH rfl rfl rfl rfl rfl (plain_spec wk wa wx _) .base rfl ?_
    have hpl : (plainF ⟨wk, wa, wx⟩).area = wa := by
      unfold plainF
      split
      · rfl
      · split <;> rfl
    have hpd : (plainF ⟨wk, wa, wx⟩).data.length ≤ 1048576 := Nat.le_trans (plain_le _) hw
    have hcs : plainF ⟨wk, wa, wx⟩ = ⟨1, wa, wx⟩ ∨ plainF ⟨wk, wa, wx⟩ = ⟨2, wa, []⟩ ∨ plainF ⟨wk, wa, wx⟩ = ⟨3, wa, []⟩ := by
      unfold plainF
      split
      · rename_i e; have e : wk = 1 := e; subst e; exact .inl rfl
      · split
        · exact .inr (.inl rfl)
        · exact .inr (.inr rfl)
    generalize plainF ⟨wk, wa, wx⟩ = pw at hpl hpd hcs ⊢
    obtain ⟨pk, pa, px⟩ := pw
    have hpl : pa = wa := hpl
    subst hpl
    refine WQ.runS [] 1000 _ _ _ _ rfl (WQ.nilS ?_)
    refine WR.seq (WR.seq (WR.reg (WQ.runS [] 4 _ _ _ _ rfl ?_)))
    refine WQ.guard 48 rfl (fun g1 => ?_) (fun g1 => ?_) <;> rw [g1]
    · refine WQ.runS [] 1000 _ _ _ _ rfl (WQ.nilS ?_)
      refine WR.condT rfl ?_
      repeat (first | refine WR.seq ?_ | refine WR.block ?_ | refine WR.scope ?_ | refine WR.skip ?_ | refine WR.exit ?_ | refine WR.condT rfl ?_ | refine WR.condF rfl ?_ | refine WR.reg (WQ.runS [] 1000 _ _ _ _ rfl ?_) | refine WQ.nilS ?_ | refine WR.dreg hmix (DW.runS [] 1000 _ _ _ _ _ _ rfl ?_))
      exact WR.ret (ret8 rfl (og_low rfl))
    have g1 : ¬ pa < 0 := of_decide_eq_false g1
    refine WQ.runS [] 5 _ _ _ _ rfl ?_
    refine WQ.guard 53 rfl (fun g2 => ?_) (fun g2 => ?_) <;> rw [g2]
    · refine WQ.runS [] 1000 _ _ _ _ rfl (WQ.nilS ?_)
      refine WR.condT rfl ?_
      repeat (first | refine WR.seq ?_ | refine WR.block ?_ | refine WR.scope ?_ | refine WR.skip ?_ | refine WR.exit ?_ | refine WR.condT rfl ?_ | refine WR.condF rfl ?_ | refine WR.reg (WQ.runS [] 1000 _ _ _ _ rfl ?_) | refine WQ.nilS ?_ | refine WR.dreg hmix (DW.runS [] 1000 _ _ _ _ _ _ rfl ?_))
      exact WR.ret (ret8 rfl (og_low rfl))
    have g2 : ¬ pa > 1 := of_decide_eq_false g2
    refine WQ.runS [] 1000 _ _ _ _ rfl (WQ.nilS ?_)
    refine WR.cond rfl (fun g3 => ?_) (fun g3 => ?_)
    · repeat (first | refine WR.seq ?_ | refine WR.block ?_ | refine WR.scope ?_ | refine WR.skip ?_ | refine WR.exit ?_ | refine WR.condT rfl ?_ | refine WR.condF rfl ?_ | refine WR.reg (WQ.runS [] 1000 _ _ _ _ rfl ?_) | refine WQ.nilS ?_ | refine WR.dreg hmix (DW.runS [] 1000 _ _ _ _ _ _ rfl ?_))
      exact WR.ret (ret8 rfl (og_low rfl))
    have g3 : ¬ ((px.length : Int) > 1000) := of_decide_eq_false g3
    have hws : d.ws.length ≤ 999999 := by rw [q3]; omega
    have hlm : lim = 4294967296 := rfl
    refine WR.skip ?_
    have ha : pa = 0 ∨ pa = 1 := by omega
    rcases hcs with e | e | e <;> cases e <;> rcases ha with rfl | rfl
    · repeat (first | refine WR.seq ?_ | refine WR.block ?_ | refine WR.scope ?_ | refine WR.skip ?_ | refine WR.exit ?_ | refine WR.condT rfl ?_ | refine WR.condF rfl ?_ | refine WR.reg (WQ.runS [] 1000 _ _ _ _ rfl ?_) | refine WQ.nilS ?_ | refine WR.dreg hmix (DW.runS [] 1000 _ _ _ _ _ _ rfl ?_))
      refine WQ.callH rfl rfl rfl rfl rfl (areaC1 (d := d) q1 (hd_at (t := 1001) rfl rfl rfl rfl rfl)) .base rfl (WQ.runS [] 1000 _ _ _ _ rfl ?_)
      repeat (first | refine WR.seq ?_ | refine WR.block ?_ | refine WR.scope ?_ | refine WR.skip ?_ | refine WR.exit ?_ | refine WR.condT rfl ?_ | refine WR.condF rfl ?_ | refine WR.reg (WQ.runS [] 1000 _ _ _ _ rfl ?_) | refine WQ.nilS ?_ | refine WR.dreg hmix (DW.runS [] 1000 _ _ _ _ _ _ rfl ?_))
      refine WQ.callH rfl rfl rfl rfl rfl (areaC0 (d := d) q1 (hd_at (t := 1001) rfl rfl rfl rfl rfl)) .base rfl (WQ.runS [] 1000 _ _ _ _ rfl ?_)
      repeat (first | refine WR.seq ?_ | refine WR.block ?_ | refine WR.scope ?_ | refine WR.skip ?_ | refine WR.exit ?_ | refine WR.condT rfl ?_ | refine WR.condF rfl ?_ | refine WR.reg (WQ.runS [] 1000 _ _ _ _ rfl ?_) | refine WQ.nilS ?_ | refine WR.dreg hmix (DW.runS [] 1000 _ _ _ _ _ _ rfl ?_))
      refine WQ.callH rfl rfl rfl rfl rfl (nowC (d := d) q1 (hd_at (t := 1001) rfl rfl rfl rfl rfl)) .base rfl (WQ.runS [] 1000 _ _ _ _ rfl ?_)
      repeat (first | refine WR.seq ?_ | refine WR.block ?_ | refine WR.scope ?_ | refine WR.skip ?_ | refine WR.exit ?_ | refine WR.condT rfl ?_ | refine WR.condF rfl ?_ | refine WR.reg (WQ.runS [] 1000 _ _ _ _ rfl ?_) | refine WQ.nilS ?_ | refine WR.dreg hmix (DW.runS [] 1000 _ _ _ _ _ _ rfl ?_))
      refine WQ.callH rfl rfl rfl rfl rfl (disk_lift (by have := wrote_plain d ⟨1, 0, wx⟩ rfl ⟨by omega, by omega, by omega, by omega⟩; rwa [show write d ⟨1, 0, wx⟩ = ({ d with a0 := d.a0 ++ wx, ws := d.ws ++ [⟨1, 0, wx⟩] }, 0) from (by simp [write, done, q1, q2])] at this) (by exact ⟨encW_in _, trivial⟩) (by exact trivial) (hd_at (t := 1001) rfl rfl rfl rfl rfl)) (.put (.put .base rfl) rfl) rfl (WQ.runS [] 1000 _ _ _ _ rfl ?_)
      repeat (first | refine WR.seq ?_ | refine WR.block ?_ | refine WR.scope ?_ | refine WR.skip ?_ | refine WR.exit ?_ | refine WR.condT rfl ?_ | refine WR.condF rfl ?_ | refine WR.reg (WQ.runS [] 1000 _ _ _ _ rfl ?_) | refine WQ.nilS ?_ | refine WR.dreg hmix (DW.runS [] 1000 _ _ _ _ _ _ rfl ?_))
      refine WQ.callH rfl rfl rfl rfl rfl (areaC1 (d := { d with a0 := d.a0 ++ wx, ws := d.ws ++ [⟨1, 0, wx⟩] }) q1 (hd_at (t := 1001) rfl rfl rfl rfl rfl)) .base rfl (WQ.runS [] 1000 _ _ _ _ rfl ?_)
      repeat (first | refine WR.seq ?_ | refine WR.block ?_ | refine WR.scope ?_ | refine WR.skip ?_ | refine WR.exit ?_ | refine WR.condT rfl ?_ | refine WR.condF rfl ?_ | refine WR.reg (WQ.runS [] 1000 _ _ _ _ rfl ?_) | refine WQ.nilS ?_ | refine WR.dreg hmix (DW.runS [] 1000 _ _ _ _ _ _ rfl ?_))
      refine WQ.callH rfl rfl rfl rfl rfl (areaC0 (d := { d with a0 := d.a0 ++ wx, ws := d.ws ++ [⟨1, 0, wx⟩] }) q1 (hd_at (t := 1001) rfl rfl rfl rfl rfl)) .base rfl (WQ.runS [] 1000 _ _ _ _ rfl ?_)
      repeat (first | refine WR.seq ?_ | refine WR.block ?_ | refine WR.scope ?_ | refine WR.skip ?_ | refine WR.exit ?_ | refine WR.condT rfl ?_ | refine WR.condF rfl ?_ | refine WR.reg (WQ.runS [] 1000 _ _ _ _ rfl ?_) | refine WQ.nilS ?_ | refine WR.dreg hmix (DW.runS [] 1000 _ _ _ _ _ _ rfl ?_))
      refine WQ.callH rfl rfl rfl rfl rfl (nowC (d := { d with a0 := d.a0 ++ wx, ws := d.ws ++ [⟨1, 0, wx⟩] }) q1 (hd_at (t := 1001) rfl rfl rfl rfl rfl)) .base rfl (WQ.runS [] 1000 _ _ _ _ rfl ?_)
      repeat (first | refine WR.seq ?_ | refine WR.block ?_ | refine WR.scope ?_ | refine WR.skip ?_ | refine WR.exit ?_ | refine WR.condT rfl ?_ | refine WR.condF rfl ?_ | refine WR.reg (WQ.runS [] 1000 _ _ _ _ rfl ?_) | refine WQ.nilS ?_ | refine WR.dreg hmix (DW.runS [] 1000 _ _ _ _ _ _ rfl ?_))
      refine WR.reg (WQ.runS [] 6 _ _ _ _ rfl ?_)
      rw [neg_self]
      refine WQ.runS [] 9 _ _ _ _ rfl ?_
      rw [neg_self]
      refine WQ.runS [] 1000 _ _ _ _ rfl (WQ.nilS ?_)
      refine WR.condF rfl (WR.skip ?_)
      refine WR.seq (WR.reg (WQ.runS [] 26 _ _ _ _ rfl ?_))
      refine WQ.lightS rfl rfl rfl (add_str rfl rfl (by omega) _) rfl (WQ.runS [] 1 _ _ _ _ rfl ?_)
      rw [eq_self_d]
      refine WQ.runS [] 1000 _ _ _ _ rfl (WQ.nilS ?_)
      exact WR.ret (ret8 rfl (og_low rfl))
    · repeat (first | refine WR.seq ?_ | refine WR.block ?_ | refine WR.scope ?_ | refine WR.skip ?_ | refine WR.exit ?_ | refine WR.condT rfl ?_ | refine WR.condF rfl ?_ | refine WR.reg (WQ.runS [] 1000 _ _ _ _ rfl ?_) | refine WQ.nilS ?_ | refine WR.dreg hmix (DW.runS [] 1000 _ _ _ _ _ _ rfl ?_))
      refine WQ.callH rfl rfl rfl rfl rfl (areaC0 (d := d) q1 (hd_at (t := 1001) rfl rfl rfl rfl rfl)) .base rfl (WQ.runS [] 1000 _ _ _ _ rfl ?_)
      repeat (first | refine WR.seq ?_ | refine WR.block ?_ | refine WR.scope ?_ | refine WR.skip ?_ | refine WR.exit ?_ | refine WR.condT rfl ?_ | refine WR.condF rfl ?_ | refine WR.reg (WQ.runS [] 1000 _ _ _ _ rfl ?_) | refine WQ.nilS ?_ | refine WR.dreg hmix (DW.runS [] 1000 _ _ _ _ _ _ rfl ?_))
      refine WQ.callH rfl rfl rfl rfl rfl (areaC1 (d := d) q1 (hd_at (t := 1001) rfl rfl rfl rfl rfl)) .base rfl (WQ.runS [] 1000 _ _ _ _ rfl ?_)
      repeat (first | refine WR.seq ?_ | refine WR.block ?_ | refine WR.scope ?_ | refine WR.skip ?_ | refine WR.exit ?_ | refine WR.condT rfl ?_ | refine WR.condF rfl ?_ | refine WR.reg (WQ.runS [] 1000 _ _ _ _ rfl ?_) | refine WQ.nilS ?_ | refine WR.dreg hmix (DW.runS [] 1000 _ _ _ _ _ _ rfl ?_))
      refine WQ.callH rfl rfl rfl rfl rfl (nowC (d := d) q1 (hd_at (t := 1001) rfl rfl rfl rfl rfl)) .base rfl (WQ.runS [] 1000 _ _ _ _ rfl ?_)
      repeat (first | refine WR.seq ?_ | refine WR.block ?_ | refine WR.scope ?_ | refine WR.skip ?_ | refine WR.exit ?_ | refine WR.condT rfl ?_ | refine WR.condF rfl ?_ | refine WR.reg (WQ.runS [] 1000 _ _ _ _ rfl ?_) | refine WQ.nilS ?_ | refine WR.dreg hmix (DW.runS [] 1000 _ _ _ _ _ _ rfl ?_))
      refine WQ.callH rfl rfl rfl rfl rfl (disk_lift (by have := wrote_plain d ⟨1, 1, wx⟩ rfl ⟨by omega, by omega, by omega, by omega⟩; rwa [show write d ⟨1, 1, wx⟩ = ({ d with a1 := d.a1 ++ wx, ws := d.ws ++ [⟨1, 1, wx⟩] }, 0) from (by simp [write, done, q1, q2])] at this) (by exact ⟨encW_in _, trivial⟩) (by exact trivial) (hd_at (t := 1001) rfl rfl rfl rfl rfl)) (.put (.put .base rfl) rfl) rfl (WQ.runS [] 1000 _ _ _ _ rfl ?_)
      repeat (first | refine WR.seq ?_ | refine WR.block ?_ | refine WR.scope ?_ | refine WR.skip ?_ | refine WR.exit ?_ | refine WR.condT rfl ?_ | refine WR.condF rfl ?_ | refine WR.reg (WQ.runS [] 1000 _ _ _ _ rfl ?_) | refine WQ.nilS ?_ | refine WR.dreg hmix (DW.runS [] 1000 _ _ _ _ _ _ rfl ?_))
      refine WQ.callH rfl rfl rfl rfl rfl (areaC0 (d := { d with a1 := d.a1 ++ wx, ws := d.ws ++ [⟨1, 1, wx⟩] }) q1 (hd_at (t := 1001) rfl rfl rfl rfl rfl)) .base rfl (WQ.runS [] 1000 _ _ _ _ rfl ?_)
      repeat (first | refine WR.seq ?_ | refine WR.block ?_ | refine WR.scope ?_ | refine WR.skip ?_ | refine WR.exit ?_ | refine WR.condT rfl ?_ | refine WR.condF rfl ?_ | refine WR.reg (WQ.runS [] 1000 _ _ _ _ rfl ?_) | refine WQ.nilS ?_ | refine WR.dreg hmix (DW.runS [] 1000 _ _ _ _ _ _ rfl ?_))
      refine WQ.callH rfl rfl rfl rfl rfl (areaC1 (d := { d with a1 := d.a1 ++ wx, ws := d.ws ++ [⟨1, 1, wx⟩] }) q1 (hd_at (t := 1001) rfl rfl rfl rfl rfl)) .base rfl (WQ.runS [] 1000 _ _ _ _ rfl ?_)
      repeat (first | refine WR.seq ?_ | refine WR.block ?_ | refine WR.scope ?_ | refine WR.skip ?_ | refine WR.exit ?_ | refine WR.condT rfl ?_ | refine WR.condF rfl ?_ | refine WR.reg (WQ.runS [] 1000 _ _ _ _ rfl ?_) | refine WQ.nilS ?_ | refine WR.dreg hmix (DW.runS [] 1000 _ _ _ _ _ _ rfl ?_))
      refine WQ.callH rfl rfl rfl rfl rfl (nowC (d := { d with a1 := d.a1 ++ wx, ws := d.ws ++ [⟨1, 1, wx⟩] }) q1 (hd_at (t := 1001) rfl rfl rfl rfl rfl)) .base rfl (WQ.runS [] 1000 _ _ _ _ rfl ?_)
      repeat (first | refine WR.seq ?_ | refine WR.block ?_ | refine WR.scope ?_ | refine WR.skip ?_ | refine WR.exit ?_ | refine WR.condT rfl ?_ | refine WR.condF rfl ?_ | refine WR.reg (WQ.runS [] 1000 _ _ _ _ rfl ?_) | refine WQ.nilS ?_ | refine WR.dreg hmix (DW.runS [] 1000 _ _ _ _ _ _ rfl ?_))
      refine WR.reg (WQ.runS [] 6 _ _ _ _ rfl ?_)
      rw [neg_self]
      refine WQ.runS [] 9 _ _ _ _ rfl ?_
      rw [neg_self]
      refine WQ.runS [] 1000 _ _ _ _ rfl (WQ.nilS ?_)
      refine WR.condF rfl (WR.skip ?_)
      refine WR.seq (WR.reg (WQ.runS [] 26 _ _ _ _ rfl ?_))
      refine WQ.lightS rfl rfl rfl (add_str rfl rfl (by omega) _) rfl (WQ.runS [] 1 _ _ _ _ rfl ?_)
      rw [eq_self_d]
      refine WQ.runS [] 1000 _ _ _ _ rfl (WQ.nilS ?_)
      exact WR.ret (ret8 rfl (og_low rfl))
    · repeat (first | refine WR.seq ?_ | refine WR.block ?_ | refine WR.scope ?_ | refine WR.skip ?_ | refine WR.exit ?_ | refine WR.condT rfl ?_ | refine WR.condF rfl ?_ | refine WR.reg (WQ.runS [] 1000 _ _ _ _ rfl ?_) | refine WQ.nilS ?_ | refine WR.dreg hmix (DW.runS [] 1000 _ _ _ _ _ _ rfl ?_))
      refine WQ.callH rfl rfl rfl rfl rfl (areaC1 (d := d) q1 (hd_at (t := 1001) rfl rfl rfl rfl rfl)) .base rfl (WQ.runS [] 1000 _ _ _ _ rfl ?_)
      repeat (first | refine WR.seq ?_ | refine WR.block ?_ | refine WR.scope ?_ | refine WR.skip ?_ | refine WR.exit ?_ | refine WR.condT rfl ?_ | refine WR.condF rfl ?_ | refine WR.reg (WQ.runS [] 1000 _ _ _ _ rfl ?_) | refine WQ.nilS ?_ | refine WR.dreg hmix (DW.runS [] 1000 _ _ _ _ _ _ rfl ?_))
      refine WQ.callH rfl rfl rfl rfl rfl (areaC0 (d := d) q1 (hd_at (t := 1001) rfl rfl rfl rfl rfl)) .base rfl (WQ.runS [] 1000 _ _ _ _ rfl ?_)
      repeat (first | refine WR.seq ?_ | refine WR.block ?_ | refine WR.scope ?_ | refine WR.skip ?_ | refine WR.exit ?_ | refine WR.condT rfl ?_ | refine WR.condF rfl ?_ | refine WR.reg (WQ.runS [] 1000 _ _ _ _ rfl ?_) | refine WQ.nilS ?_ | refine WR.dreg hmix (DW.runS [] 1000 _ _ _ _ _ _ rfl ?_))
      refine WQ.callH rfl rfl rfl rfl rfl (nowC (d := d) q1 (hd_at (t := 1001) rfl rfl rfl rfl rfl)) .base rfl (WQ.runS [] 1000 _ _ _ _ rfl ?_)
      repeat (first | refine WR.seq ?_ | refine WR.block ?_ | refine WR.scope ?_ | refine WR.skip ?_ | refine WR.exit ?_ | refine WR.condT rfl ?_ | refine WR.condF rfl ?_ | refine WR.reg (WQ.runS [] 1000 _ _ _ _ rfl ?_) | refine WQ.nilS ?_ | refine WR.dreg hmix (DW.runS [] 1000 _ _ _ _ _ _ rfl ?_))
      refine WQ.callH rfl rfl rfl rfl rfl (disk_lift (by have := wrote_plain d ⟨2, 0, []⟩ rfl ⟨by omega, by omega, by omega, by omega⟩; rwa [show write d ⟨2, 0, []⟩ = ({ d with a0 := [], ws := d.ws ++ [⟨2, 0, []⟩] }, 0) from (by simp [write, done, q1, q2])] at this) (by exact ⟨encW_in _, trivial⟩) (by exact trivial) (hd_at (t := 1001) rfl rfl rfl rfl rfl)) (.put (.put .base rfl) rfl) rfl (WQ.runS [] 1000 _ _ _ _ rfl ?_)
      repeat (first | refine WR.seq ?_ | refine WR.block ?_ | refine WR.scope ?_ | refine WR.skip ?_ | refine WR.exit ?_ | refine WR.condT rfl ?_ | refine WR.condF rfl ?_ | refine WR.reg (WQ.runS [] 1000 _ _ _ _ rfl ?_) | refine WQ.nilS ?_ | refine WR.dreg hmix (DW.runS [] 1000 _ _ _ _ _ _ rfl ?_))
      refine WQ.callH rfl rfl rfl rfl rfl (areaC1 (d := { d with a0 := [], ws := d.ws ++ [⟨2, 0, []⟩] }) q1 (hd_at (t := 1001) rfl rfl rfl rfl rfl)) .base rfl (WQ.runS [] 1000 _ _ _ _ rfl ?_)
      repeat (first | refine WR.seq ?_ | refine WR.block ?_ | refine WR.scope ?_ | refine WR.skip ?_ | refine WR.exit ?_ | refine WR.condT rfl ?_ | refine WR.condF rfl ?_ | refine WR.reg (WQ.runS [] 1000 _ _ _ _ rfl ?_) | refine WQ.nilS ?_ | refine WR.dreg hmix (DW.runS [] 1000 _ _ _ _ _ _ rfl ?_))
      refine WQ.callH rfl rfl rfl rfl rfl (areaC0 (d := { d with a0 := [], ws := d.ws ++ [⟨2, 0, []⟩] }) q1 (hd_at (t := 1001) rfl rfl rfl rfl rfl)) .base rfl (WQ.runS [] 1000 _ _ _ _ rfl ?_)
      repeat (first | refine WR.seq ?_ | refine WR.block ?_ | refine WR.scope ?_ | refine WR.skip ?_ | refine WR.exit ?_ | refine WR.condT rfl ?_ | refine WR.condF rfl ?_ | refine WR.reg (WQ.runS [] 1000 _ _ _ _ rfl ?_) | refine WQ.nilS ?_ | refine WR.dreg hmix (DW.runS [] 1000 _ _ _ _ _ _ rfl ?_))
      refine WQ.callH rfl rfl rfl rfl rfl (nowC (d := { d with a0 := [], ws := d.ws ++ [⟨2, 0, []⟩] }) q1 (hd_at (t := 1001) rfl rfl rfl rfl rfl)) .base rfl (WQ.runS [] 1000 _ _ _ _ rfl ?_)
      repeat (first | refine WR.seq ?_ | refine WR.block ?_ | refine WR.scope ?_ | refine WR.skip ?_ | refine WR.exit ?_ | refine WR.condT rfl ?_ | refine WR.condF rfl ?_ | refine WR.reg (WQ.runS [] 1000 _ _ _ _ rfl ?_) | refine WQ.nilS ?_ | refine WR.dreg hmix (DW.runS [] 1000 _ _ _ _ _ _ rfl ?_))
      refine WR.reg (WQ.runS [] 6 _ _ _ _ rfl ?_)
      rw [neg_self]
      refine WQ.runS [] 9 _ _ _ _ rfl ?_
      rw [neg_self]
      refine WQ.runS [] 1000 _ _ _ _ rfl (WQ.nilS ?_)
      refine WR.condF rfl (WR.skip ?_)
      refine WR.seq (WR.reg (WQ.runS [] 1000 _ _ _ _ rfl (WQ.nilS ?_)))
      exact WR.ret (ret8 rfl (og_low rfl))
    · repeat (first | refine WR.seq ?_ | refine WR.block ?_ | refine WR.scope ?_ | refine WR.skip ?_ | refine WR.exit ?_ | refine WR.condT rfl ?_ | refine WR.condF rfl ?_ | refine WR.reg (WQ.runS [] 1000 _ _ _ _ rfl ?_) | refine WQ.nilS ?_ | refine WR.dreg hmix (DW.runS [] 1000 _ _ _ _ _ _ rfl ?_))
      refine WQ.callH rfl rfl rfl rfl rfl (areaC0 (d := d) q1 (hd_at (t := 1001) rfl rfl rfl rfl rfl)) .base rfl (WQ.runS [] 1000 _ _ _ _ rfl ?_)
      repeat (first | refine WR.seq ?_ | refine WR.block ?_ | refine WR.scope ?_ | refine WR.skip ?_ | refine WR.exit ?_ | refine WR.condT rfl ?_ | refine WR.condF rfl ?_ | refine WR.reg (WQ.runS [] 1000 _ _ _ _ rfl ?_) | refine WQ.nilS ?_ | refine WR.dreg hmix (DW.runS [] 1000 _ _ _ _ _ _ rfl ?_))
      refine WQ.callH rfl rfl rfl rfl rfl (areaC1 (d := d) q1 (hd_at (t := 1001) rfl rfl rfl rfl rfl)) .base rfl (WQ.runS [] 1000 _ _ _ _ rfl ?_)
      repeat (first | refine WR.seq ?_ | refine WR.block ?_ | refine WR.scope ?_ | refine WR.skip ?_ | refine WR.exit ?_ | refine WR.condT rfl ?_ | refine WR.condF rfl ?_ | refine WR.reg (WQ.runS [] 1000 _ _ _ _ rfl ?_) | refine WQ.nilS ?_ | refine WR.dreg hmix (DW.runS [] 1000 _ _ _ _ _ _ rfl ?_))
      refine WQ.callH rfl rfl rfl rfl rfl (nowC (d := d) q1 (hd_at (t := 1001) rfl rfl rfl rfl rfl)) .base rfl (WQ.runS [] 1000 _ _ _ _ rfl ?_)
      repeat (first | refine WR.seq ?_ | refine WR.block ?_ | refine WR.scope ?_ | refine WR.skip ?_ | refine WR.exit ?_ | refine WR.condT rfl ?_ | refine WR.condF rfl ?_ | refine WR.reg (WQ.runS [] 1000 _ _ _ _ rfl ?_) | refine WQ.nilS ?_ | refine WR.dreg hmix (DW.runS [] 1000 _ _ _ _ _ _ rfl ?_))
      refine WQ.callH rfl rfl rfl rfl rfl (disk_lift (by have := wrote_plain d ⟨2, 1, []⟩ rfl ⟨by omega, by omega, by omega, by omega⟩; rwa [show write d ⟨2, 1, []⟩ = ({ d with a1 := [], ws := d.ws ++ [⟨2, 1, []⟩] }, 0) from (by simp [write, done, q1, q2])] at this) (by exact ⟨encW_in _, trivial⟩) (by exact trivial) (hd_at (t := 1001) rfl rfl rfl rfl rfl)) (.put (.put .base rfl) rfl) rfl (WQ.runS [] 1000 _ _ _ _ rfl ?_)
      repeat (first | refine WR.seq ?_ | refine WR.block ?_ | refine WR.scope ?_ | refine WR.skip ?_ | refine WR.exit ?_ | refine WR.condT rfl ?_ | refine WR.condF rfl ?_ | refine WR.reg (WQ.runS [] 1000 _ _ _ _ rfl ?_) | refine WQ.nilS ?_ | refine WR.dreg hmix (DW.runS [] 1000 _ _ _ _ _ _ rfl ?_))
      refine WQ.callH rfl rfl rfl rfl rfl (areaC0 (d := { d with a1 := [], ws := d.ws ++ [⟨2, 1, []⟩] }) q1 (hd_at (t := 1001) rfl rfl rfl rfl rfl)) .base rfl (WQ.runS [] 1000 _ _ _ _ rfl ?_)
      repeat (first | refine WR.seq ?_ | refine WR.block ?_ | refine WR.scope ?_ | refine WR.skip ?_ | refine WR.exit ?_ | refine WR.condT rfl ?_ | refine WR.condF rfl ?_ | refine WR.reg (WQ.runS [] 1000 _ _ _ _ rfl ?_) | refine WQ.nilS ?_ | refine WR.dreg hmix (DW.runS [] 1000 _ _ _ _ _ _ rfl ?_))
      refine WQ.callH rfl rfl rfl rfl rfl (areaC1 (d := { d with a1 := [], ws := d.ws ++ [⟨2, 1, []⟩] }) q1 (hd_at (t := 1001) rfl rfl rfl rfl rfl)) .base rfl (WQ.runS [] 1000 _ _ _ _ rfl ?_)
      repeat (first | refine WR.seq ?_ | refine WR.block ?_ | refine WR.scope ?_ | refine WR.skip ?_ | refine WR.exit ?_ | refine WR.condT rfl ?_ | refine WR.condF rfl ?_ | refine WR.reg (WQ.runS [] 1000 _ _ _ _ rfl ?_) | refine WQ.nilS ?_ | refine WR.dreg hmix (DW.runS [] 1000 _ _ _ _ _ _ rfl ?_))
      refine WQ.callH rfl rfl rfl rfl rfl (nowC (d := { d with a1 := [], ws := d.ws ++ [⟨2, 1, []⟩] }) q1 (hd_at (t := 1001) rfl rfl rfl rfl rfl)) .base rfl (WQ.runS [] 1000 _ _ _ _ rfl ?_)
      repeat (first | refine WR.seq ?_ | refine WR.block ?_ | refine WR.scope ?_ | refine WR.skip ?_ | refine WR.exit ?_ | refine WR.condT rfl ?_ | refine WR.condF rfl ?_ | refine WR.reg (WQ.runS [] 1000 _ _ _ _ rfl ?_) | refine WQ.nilS ?_ | refine WR.dreg hmix (DW.runS [] 1000 _ _ _ _ _ _ rfl ?_))
      refine WR.reg (WQ.runS [] 6 _ _ _ _ rfl ?_)
      rw [neg_self]
      refine WQ.runS [] 9 _ _ _ _ rfl ?_
      rw [neg_self]
      refine WQ.runS [] 1000 _ _ _ _ rfl (WQ.nilS ?_)
      refine WR.condF rfl (WR.skip ?_)
      refine WR.seq (WR.reg (WQ.runS [] 1000 _ _ _ _ rfl (WQ.nilS ?_)))
      exact WR.ret (ret8 rfl (og_low rfl))
    · repeat (first | refine WR.seq ?_ | refine WR.block ?_ | refine WR.scope ?_ | refine WR.skip ?_ | refine WR.exit ?_ | refine WR.condT rfl ?_ | refine WR.condF rfl ?_ | refine WR.reg (WQ.runS [] 1000 _ _ _ _ rfl ?_) | refine WQ.nilS ?_ | refine WR.dreg hmix (DW.runS [] 1000 _ _ _ _ _ _ rfl ?_))
      refine WQ.callH rfl rfl rfl rfl rfl (areaC1 (d := d) q1 (hd_at (t := 1001) rfl rfl rfl rfl rfl)) .base rfl (WQ.runS [] 1000 _ _ _ _ rfl ?_)
      repeat (first | refine WR.seq ?_ | refine WR.block ?_ | refine WR.scope ?_ | refine WR.skip ?_ | refine WR.exit ?_ | refine WR.condT rfl ?_ | refine WR.condF rfl ?_ | refine WR.reg (WQ.runS [] 1000 _ _ _ _ rfl ?_) | refine WQ.nilS ?_ | refine WR.dreg hmix (DW.runS [] 1000 _ _ _ _ _ _ rfl ?_))
      refine WQ.callH rfl rfl rfl rfl rfl (areaC0 (d := d) q1 (hd_at (t := 1001) rfl rfl rfl rfl rfl)) .base rfl (WQ.runS [] 1000 _ _ _ _ rfl ?_)
      repeat (first | refine WR.seq ?_ | refine WR.block ?_ | refine WR.scope ?_ | refine WR.skip ?_ | refine WR.exit ?_ | refine WR.condT rfl ?_ | refine WR.condF rfl ?_ | refine WR.reg (WQ.runS [] 1000 _ _ _ _ rfl ?_) | refine WQ.nilS ?_ | refine WR.dreg hmix (DW.runS [] 1000 _ _ _ _ _ _ rfl ?_))
      refine WQ.callH rfl rfl rfl rfl rfl (nowC (d := d) q1 (hd_at (t := 1001) rfl rfl rfl rfl rfl)) .base rfl (WQ.runS [] 1000 _ _ _ _ rfl ?_)
      repeat (first | refine WR.seq ?_ | refine WR.block ?_ | refine WR.scope ?_ | refine WR.skip ?_ | refine WR.exit ?_ | refine WR.condT rfl ?_ | refine WR.condF rfl ?_ | refine WR.reg (WQ.runS [] 1000 _ _ _ _ rfl ?_) | refine WQ.nilS ?_ | refine WR.dreg hmix (DW.runS [] 1000 _ _ _ _ _ _ rfl ?_))
      refine WQ.callH rfl rfl rfl rfl rfl (disk_lift (by have := wrote_plain d ⟨3, 0, []⟩ rfl ⟨by omega, by omega, by omega, by omega⟩; rwa [show write d ⟨3, 0, []⟩ = ({ d with root := 0, ws := d.ws ++ [⟨3, 0, []⟩] }, 0) from (by simp [write, done, q1, q2])] at this) (by exact ⟨encW_in _, trivial⟩) (by exact trivial) (hd_at (t := 1001) rfl rfl rfl rfl rfl)) (.put (.put .base rfl) rfl) rfl (WQ.runS [] 1000 _ _ _ _ rfl ?_)
      repeat (first | refine WR.seq ?_ | refine WR.block ?_ | refine WR.scope ?_ | refine WR.skip ?_ | refine WR.exit ?_ | refine WR.condT rfl ?_ | refine WR.condF rfl ?_ | refine WR.reg (WQ.runS [] 1000 _ _ _ _ rfl ?_) | refine WQ.nilS ?_ | refine WR.dreg hmix (DW.runS [] 1000 _ _ _ _ _ _ rfl ?_))
      refine WQ.callH rfl rfl rfl rfl rfl (areaC1 (d := { d with root := 0, ws := d.ws ++ [⟨3, 0, []⟩] }) q1 (hd_at (t := 1001) rfl rfl rfl rfl rfl)) .base rfl (WQ.runS [] 1000 _ _ _ _ rfl ?_)
      repeat (first | refine WR.seq ?_ | refine WR.block ?_ | refine WR.scope ?_ | refine WR.skip ?_ | refine WR.exit ?_ | refine WR.condT rfl ?_ | refine WR.condF rfl ?_ | refine WR.reg (WQ.runS [] 1000 _ _ _ _ rfl ?_) | refine WQ.nilS ?_ | refine WR.dreg hmix (DW.runS [] 1000 _ _ _ _ _ _ rfl ?_))
      refine WQ.callH rfl rfl rfl rfl rfl (areaC0 (d := { d with root := 0, ws := d.ws ++ [⟨3, 0, []⟩] }) q1 (hd_at (t := 1001) rfl rfl rfl rfl rfl)) .base rfl (WQ.runS [] 1000 _ _ _ _ rfl ?_)
      repeat (first | refine WR.seq ?_ | refine WR.block ?_ | refine WR.scope ?_ | refine WR.skip ?_ | refine WR.exit ?_ | refine WR.condT rfl ?_ | refine WR.condF rfl ?_ | refine WR.reg (WQ.runS [] 1000 _ _ _ _ rfl ?_) | refine WQ.nilS ?_ | refine WR.dreg hmix (DW.runS [] 1000 _ _ _ _ _ _ rfl ?_))
      refine WQ.callH rfl rfl rfl rfl rfl (nowC (d := { d with root := 0, ws := d.ws ++ [⟨3, 0, []⟩] }) q1 (hd_at (t := 1001) rfl rfl rfl rfl rfl)) .base rfl (WQ.runS [] 1000 _ _ _ _ rfl ?_)
      repeat (first | refine WR.seq ?_ | refine WR.block ?_ | refine WR.scope ?_ | refine WR.skip ?_ | refine WR.exit ?_ | refine WR.condT rfl ?_ | refine WR.condF rfl ?_ | refine WR.reg (WQ.runS [] 1000 _ _ _ _ rfl ?_) | refine WQ.nilS ?_ | refine WR.dreg hmix (DW.runS [] 1000 _ _ _ _ _ _ rfl ?_))
      refine WR.reg (WQ.runS [] 6 _ _ _ _ rfl ?_)
      rw [neg_self]
      refine WQ.runS [] 1000 _ _ _ _ rfl (WQ.nilS ?_)
      refine WR.condF rfl (WR.skip ?_)
      refine WR.seq (WR.reg (WQ.runS [] 15 _ _ _ _ rfl ?_))
      rw [eq_self_d]
      refine WQ.runS [] 1000 _ _ _ _ rfl (WQ.nilS ?_)
      exact WR.ret (ret8 rfl (og_low rfl))
    · repeat (first | refine WR.seq ?_ | refine WR.block ?_ | refine WR.scope ?_ | refine WR.skip ?_ | refine WR.exit ?_ | refine WR.condT rfl ?_ | refine WR.condF rfl ?_ | refine WR.reg (WQ.runS [] 1000 _ _ _ _ rfl ?_) | refine WQ.nilS ?_ | refine WR.dreg hmix (DW.runS [] 1000 _ _ _ _ _ _ rfl ?_))
      refine WQ.callH rfl rfl rfl rfl rfl (areaC0 (d := d) q1 (hd_at (t := 1001) rfl rfl rfl rfl rfl)) .base rfl (WQ.runS [] 1000 _ _ _ _ rfl ?_)
      repeat (first | refine WR.seq ?_ | refine WR.block ?_ | refine WR.scope ?_ | refine WR.skip ?_ | refine WR.exit ?_ | refine WR.condT rfl ?_ | refine WR.condF rfl ?_ | refine WR.reg (WQ.runS [] 1000 _ _ _ _ rfl ?_) | refine WQ.nilS ?_ | refine WR.dreg hmix (DW.runS [] 1000 _ _ _ _ _ _ rfl ?_))
      refine WQ.callH rfl rfl rfl rfl rfl (areaC1 (d := d) q1 (hd_at (t := 1001) rfl rfl rfl rfl rfl)) .base rfl (WQ.runS [] 1000 _ _ _ _ rfl ?_)
      repeat (first | refine WR.seq ?_ | refine WR.block ?_ | refine WR.scope ?_ | refine WR.skip ?_ | refine WR.exit ?_ | refine WR.condT rfl ?_ | refine WR.condF rfl ?_ | refine WR.reg (WQ.runS [] 1000 _ _ _ _ rfl ?_) | refine WQ.nilS ?_ | refine WR.dreg hmix (DW.runS [] 1000 _ _ _ _ _ _ rfl ?_))
      refine WQ.callH rfl rfl rfl rfl rfl (nowC (d := d) q1 (hd_at (t := 1001) rfl rfl rfl rfl rfl)) .base rfl (WQ.runS [] 1000 _ _ _ _ rfl ?_)
      repeat (first | refine WR.seq ?_ | refine WR.block ?_ | refine WR.scope ?_ | refine WR.skip ?_ | refine WR.exit ?_ | refine WR.condT rfl ?_ | refine WR.condF rfl ?_ | refine WR.reg (WQ.runS [] 1000 _ _ _ _ rfl ?_) | refine WQ.nilS ?_ | refine WR.dreg hmix (DW.runS [] 1000 _ _ _ _ _ _ rfl ?_))
      refine WQ.callH rfl rfl rfl rfl rfl (disk_lift (by have := wrote_plain d ⟨3, 1, []⟩ rfl ⟨by omega, by omega, by omega, by omega⟩; rwa [show write d ⟨3, 1, []⟩ = ({ d with root := 1, ws := d.ws ++ [⟨3, 1, []⟩] }, 0) from (by simp [write, done, q1, q2])] at this) (by exact ⟨encW_in _, trivial⟩) (by exact trivial) (hd_at (t := 1001) rfl rfl rfl rfl rfl)) (.put (.put .base rfl) rfl) rfl (WQ.runS [] 1000 _ _ _ _ rfl ?_)
      repeat (first | refine WR.seq ?_ | refine WR.block ?_ | refine WR.scope ?_ | refine WR.skip ?_ | refine WR.exit ?_ | refine WR.condT rfl ?_ | refine WR.condF rfl ?_ | refine WR.reg (WQ.runS [] 1000 _ _ _ _ rfl ?_) | refine WQ.nilS ?_ | refine WR.dreg hmix (DW.runS [] 1000 _ _ _ _ _ _ rfl ?_))
      refine WQ.callH rfl rfl rfl rfl rfl (areaC0 (d := { d with root := 1, ws := d.ws ++ [⟨3, 1, []⟩] }) q1 (hd_at (t := 1001) rfl rfl rfl rfl rfl)) .base rfl (WQ.runS [] 1000 _ _ _ _ rfl ?_)
      repeat (first | refine WR.seq ?_ | refine WR.block ?_ | refine WR.scope ?_ | refine WR.skip ?_ | refine WR.exit ?_ | refine WR.condT rfl ?_ | refine WR.condF rfl ?_ | refine WR.reg (WQ.runS [] 1000 _ _ _ _ rfl ?_) | refine WQ.nilS ?_ | refine WR.dreg hmix (DW.runS [] 1000 _ _ _ _ _ _ rfl ?_))
      refine WQ.callH rfl rfl rfl rfl rfl (areaC1 (d := { d with root := 1, ws := d.ws ++ [⟨3, 1, []⟩] }) q1 (hd_at (t := 1001) rfl rfl rfl rfl rfl)) .base rfl (WQ.runS [] 1000 _ _ _ _ rfl ?_)
      repeat (first | refine WR.seq ?_ | refine WR.block ?_ | refine WR.scope ?_ | refine WR.skip ?_ | refine WR.exit ?_ | refine WR.condT rfl ?_ | refine WR.condF rfl ?_ | refine WR.reg (WQ.runS [] 1000 _ _ _ _ rfl ?_) | refine WQ.nilS ?_ | refine WR.dreg hmix (DW.runS [] 1000 _ _ _ _ _ _ rfl ?_))
      refine WQ.callH rfl rfl rfl rfl rfl (nowC (d := { d with root := 1, ws := d.ws ++ [⟨3, 1, []⟩] }) q1 (hd_at (t := 1001) rfl rfl rfl rfl rfl)) .base rfl (WQ.runS [] 1000 _ _ _ _ rfl ?_)
      repeat (first | refine WR.seq ?_ | refine WR.block ?_ | refine WR.scope ?_ | refine WR.skip ?_ | refine WR.exit ?_ | refine WR.condT rfl ?_ | refine WR.condF rfl ?_ | refine WR.reg (WQ.runS [] 1000 _ _ _ _ rfl ?_) | refine WQ.nilS ?_ | refine WR.dreg hmix (DW.runS [] 1000 _ _ _ _ _ _ rfl ?_))
      refine WR.reg (WQ.runS [] 6 _ _ _ _ rfl ?_)
      rw [neg_self]
      refine WQ.runS [] 1000 _ _ _ _ rfl (WQ.nilS ?_)
      refine WR.condF rfl (WR.skip ?_)
      refine WR.seq (WR.reg (WQ.runS [] 15 _ _ _ _ rfl ?_))
      rw [eq_self_d]
      refine WQ.runS [] 1000 _ _ _ _ rfl (WQ.nilS ?_)
      exact WR.ret (ret8 rfl (og_low rfl))
end Go.VM
