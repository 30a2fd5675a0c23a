/- The law DiskFuses. -/
import Derived.Test.YtdmpeinbbcjamaaVtPlays
set_option maxRecDepth 100000
set_option linter.unusedVariables false
set_option linter.unusedSimpArgs false
namespace Go.VM
open Go.RowKit

theorem replayF_append : ∀ {l m : List Wr} {d d' : Dk}, replayF l d = (some d', 0) → replayF (l ++ m) d = replayF m d'
  | [], m, d, d', h => by simp only [replayF] at h; cases h; rfl
  | w :: r, m, d, d', h => by
    simp only [replayF] at h
    simp only [List.cons_append, replayF]
    split at h
    · cases h
    · rename_i hb
      rw [if_neg hb]
      split at h
      · cases h
      · rename_i hw
        rw [if_neg hw]
        exact replayF_append h

theorem bad_plain (w : Wr) : badW (plainF w) = false := by
  unfold plainF badW
  split
  · rename_i h; simp [h]
  · split <;> simp

/-- what holds of a disk with a fuse behind so many writes. -/
structure FI (m i : Nat) (d : Dk) : Prop where
  live : i ≤ m → d.off = false ∧ d.fuse = (m : Int) - i ∧ d.ws.length = i
  dead : m < i → d.off = true ∧ d.ws.length = m
  same : ∃ r, replayF d.ws d0 = (some r, 0) ∧ r.a0 = d.a0 ∧ r.a1 = d.a1 ∧ r.root = d.root
  fuse : d.fuse < 9223372036854775808
  a0 : d.a0.length ≤ 1000 * i
  a1 : d.a1.length ≤ 1000 * i
  dl : dl d.ws ≤ 1000 * i

theorem dl_append : ∀ (l m : List Wr), dl (l ++ m) = dl l + dl m
  | [], m => by simp [dl]
  | w :: r, m => by simp only [List.cons_append, dl, dl_append r m]; omega

theorem done_same (d r : Dk) (w : Wr) (h0 : r.a0 = d.a0) (h1 : r.a1 = d.a1) (h2 : r.root = d.root) : (done r w).1.a0 = (done d w).1.a0 ∧ (done r w).1.a1 = (done d w).1.a1 ∧ (done r w).1.root = (done d w).1.root ∧ (done d w).2 = 0 ∧ (done r w).2 = 0 ∧ (done d w).1.ws = d.ws ++ [w] ∧ (done d w).1.off = d.off ∧ (done d w).1.fuse = d.fuse := by
  unfold done
  split
  · split <;> simp [h0, h1, h2]
  · split
    · split <;> simp [h0, h1, h2]
    · simp [h0, h1, h2]

theorem FI.step {m i : Nat} {d : Dk} (h : FI m i d) {w : Wr} (ha : w.area = 0 ∨ w.area = 1) (hb : badW w = false) (hl : w.data.length ≤ 1000) : FI m (i + 1) (write d w).1 ∧ (decide ((write d w).2 = 0) = decide (i < m)) := by
  obtain ⟨h1, h2, ⟨r, h3, h4, h5, h6⟩, h7, h8, h9, h10⟩ := h
  obtain ⟨g1, g2, g3, g4⟩ := write_le d w
  by_cases hi : i ≤ m
  · obtain ⟨q1, q2, q3⟩ := h1 hi
    by_cases hm : i = m
    · have hf : d.fuse = 0 := by omega
      have hw : write d w = ({ d with off := true }, 180) := by simp [write, q1, ha, hf]
      rw [hw]
      refine ⟨⟨fun e => by omega, fun _ => ⟨rfl, by simp; omega⟩, ⟨r, h3, h4, h5, h6⟩, h7, by simp; omega, by simp; omega, by simp; omega⟩, by simp; omega⟩
    · have hf : 0 < d.fuse := by omega
      have hw : write d w = done { d with fuse := d.fuse - 1 } w := by
        simp only [write, q1, ha, not_true, if_false, if_neg (show ¬ d.fuse = 0 by omega), if_pos hf]; rfl
      obtain ⟨k1, k2, k3, k4, k5, k6, k7, k8⟩ := done_same { d with fuse := d.fuse - 1 } r w h4 h5 h6
      have hr := replayF_ok (l := d.ws) rfl rfl h3
      have hrw : write r w = done r w := by
        simp only [write, hr.2.1, ha, not_true, if_false, hr.2.2.1, show ¬ ((-1 : Int) = 0) by decide, show ¬ ((0 : Int) < -1) by decide]; rfl
      rw [hw] at g1 g2 g3 g4 ⊢
      refine ⟨⟨fun e => ⟨k7.trans q1, by rw [k8]; simp; omega, by rw [k6]; simp [q3]⟩, fun e => by omega, ⟨(done r w).1, ?_, k1, k2, k3⟩, by rw [k8]; simp; omega, by omega, by omega, by rw [k6, dl_append]; simp [VM.dl]; omega⟩, by rw [k4]; simp; omega⟩
      rw [k6, replayF_append h3]
      simp only [replayF, hb, Bool.false_eq_true, if_false, hrw, k5, ne_eq, not_true]
  · obtain ⟨q1, q2⟩ := h2 (by omega)
    have hw : write d w = (d, 180) := by simp [write, q1]
    rw [hw]
    refine ⟨⟨fun e => by omega, fun _ => ⟨q1, q2⟩, ⟨r, h3, h4, h5, h6⟩, h7, by simp; omega, by simp; omega, by simp; omega⟩, by simp; omega⟩

theorem write_len (d : Dk) (w : Wr) : ((write d w).2 = 0 → (write d w).1.ws.length = d.ws.length + 1) ∧ (¬ (write d w).2 = 0 → (write d w).1.ws.length = d.ws.length) := by
  have hd : ∀ d1 : Dk, (done d1 w).2 = 0 ∧ (done d1 w).1.ws = d1.ws ++ [w] := by
    intro d1
    have := done_same d1 d1 w rfl rfl rfl
    exact ⟨this.2.2.2.1, this.2.2.2.2.2.1⟩
  unfold write
  split
  · simp
  · split
    · simp
    · split
      · simp
      · obtain ⟨a, b⟩ := hd (if 0 < d.fuse then { d with fuse := d.fuse - 1 } else d)
        refine ⟨fun _ => ?_, fun h => absurd a h⟩
        rw [b]
        split <;> simp

theorem plain_plain (w : Wr) : plainF (plainF w) = plainF w := by
  unfold plainF
  split
  · rfl
  · split
    · simp
    · simp

theorem wrote_plain (d : Dk) (p : Wr) (hp : plainF p = p) (ft : Fit d p.data.length) : SCall Go.Proofs.Try.prog [] 13 [.ptr 1000 0, .agg (encW p)] none ⟨1002, og (dol d), []⟩ (.ret (.int .i64 (write d p).2)) none ⟨1002, og (dol (write d p).1), []⟩ := by
  have := wrote_core d p ft
  rwa [hp] at this

noncomputable abbrev fr7 : Fr := ⟨Go.Proofs.Try.f7.ntmps, none, 7⟩

theorem ret7 {tm : TM} {ol : OL} {nx : Nat} {lc : LM} (h : tg tm 4 = some (.v (.bool true))) (hol : ∀ b, b < 1000 → og ol b = none) : retX (RetS Go.Proofs.Try.prog Go.Proofs.Try.f7 (.bool true) 1000 []) .ret (SL.toS ⟨tm, [], none, nx, ol, lc⟩) := by
  refine ⟨rfl, rfl, ⟨[.bool true], ?_, VLe.refl _⟩, fun b hb => (hol b hb).symm⟩
  show resV Go.Proofs.Try.prog _ _ [.tmp 4] = _
  simp only [resV, SL.toS, h]

def fTm (l : List Wr) (m i : Nat) (d : Dk) : TM := [(0, .v (.lst (l.map encW) .unk)), (1, .v (.int .i64 m)), (6, .v (.ptr 1000 0)), (7, .v (.int .i64 d.ws.length)), (8, .v (.int .i64 i))]

theorem fuses_loop (l : List Wr) (hl : l.length ≤ 100) (m : Nat) (hm : m < 120) {QN : S → Prop} {QX : X → S → Prop}
    (hr : ∀ tm d lc, tg tm 4 = some (.v (.bool true)) → QX .ret (SL.toS ⟨tm, [], none, 1002, dol d, lc⟩))
    (hx : ∀ tm d lc, FI m l.length d → tg tm 6 = some (.v (.ptr 1000 0)) → tg tm 7 = some (.v (.int .i64 d.ws.length)) → QX (.exit 0) (SL.toS ⟨tm, [], none, 1002, dol d, lc⟩)) : ∀ (n i : Nat) (d : Dk), i + n = l.length → FI m i d →
    WLr Go.Proofs.Try.prog [] fr7 rc7_L1 (SL.toS ⟨fTm l m i d, [], none, 1002, dol d, []⟩) QN QX := by
  intro n
  induction n with
  | zero =>
    intro i d hi fi
    unfold rc7_L1
    refine WLr.of ?_
    repeat (first | refine WR.seq ?_ | refine WR.block ?_ | refine WR.scope ?_ | refine WR.skip ?_ | refine WR.exit ?_ | refine WR.condT rfl ?_ | refine WR.condF rfl ?_ | refine WR.reg (WQ.runS [] 1000 _ _ _ _ rfl ?_) | refine WQ.nilS ?_ | refine WR.dreg hmix (DW.runS [] 1000 _ _ _ _ _ _ rfl ?_))
    refine WR.cond rfl (fun h1 => ?_) (fun h1 => ?_)
    · have h1 := of_decide_eq_true h1
      simp at h1; omega
    · repeat (first | refine WR.seq ?_ | refine WR.block ?_ | refine WR.scope ?_ | refine WR.skip ?_ | refine WR.exit ?_ | refine WR.condT rfl ?_ | refine WR.condF rfl ?_ | refine WR.reg (WQ.runS [] 1000 _ _ _ _ rfl ?_) | refine WQ.nilS ?_ | refine WR.dreg hmix (DW.runS [] 1000 _ _ _ _ _ _ rfl ?_))
      refine hx _ d _ ?_ rfl rfl
      have : l.length = i := by omega
      rw [this]; exact fi
  | succ n ih =>
    intro i d hi fi
    have hlt : i < l.length := by omega
    have hg : (l.map encW)[i]? = some (encW l[i]) := by simp [hlt]
    generalize l[i] = w at hg
    obtain ⟨k, a, x⟩ := w
    unfold rc7_L1
    refine WLr.of ?_
    repeat (first | refine WR.seq ?_ | refine WR.block ?_ | refine WR.scope ?_ | refine WR.skip ?_ | refine WR.exit ?_ | refine WR.condT rfl ?_ | refine WR.condF rfl ?_ | refine WR.reg (WQ.runS [] 1000 _ _ _ _ rfl ?_) | refine WQ.nilS ?_ | refine WR.dreg hmix (DW.runS [] 1000 _ _ _ _ _ _ rfl ?_))
    refine WR.cond rfl (fun h1 => ?_) (fun h1 => ?_)
    rotate_left
    · have h1 := of_decide_eq_false h1
      simp at h1; omega
    refine WR.skip (WR.seq (WR.block (WR.seq (WR.reg ?_))))
    refine WQ.runS [] 2 _ _ _ _ rfl (WQ.lightS rfl rfl rfl (ia_at rfl rfl hg rfl) rfl ?_)
    refine WQ.runS [] 1 _ _ _ _ rfl ?_
    refine WQ.callH rfl rfl rfl rfl rfl (plain_spec k a x _) .base rfl ?_
    have hpp := plain_plain ⟨k, a, x⟩
    have hbd := bad_plain ⟨k, a, x⟩
    generalize plainF ⟨k, a, x⟩ = pw at hpp hbd ⊢
    obtain ⟨pk, pa, px⟩ := pw
    refine WQ.runS [] 1000 _ _ _ _ rfl (WQ.nilS ?_)
    refine WR.seq (WR.seq (WR.reg (WQ.runS [] 4 _ _ _ _ rfl ?_)))
    refine WQ.guard 59 rfl (fun q1 => ?_) (fun q1 => ?_) <;> rw [q1]
    · refine WQ.runS [] 1000 _ _ _ _ rfl (WQ.nilS ?_)
      refine WR.condT rfl ?_
      repeat (first | refine WR.seq ?_ | refine WR.block ?_ | refine WR.scope ?_ | refine WR.skip ?_ | refine WR.exit ?_ | refine WR.condT rfl ?_ | refine WR.condF rfl ?_ | refine WR.reg (WQ.runS [] 1000 _ _ _ _ rfl ?_) | refine WQ.nilS ?_ | refine WR.dreg hmix (DW.runS [] 1000 _ _ _ _ _ _ rfl ?_))
      refine WR.ret ?_
      show QX .ret _
      exact hr _ d _ rfl
    have q1 : ¬ pa < 0 := of_decide_eq_false q1
    refine WQ.runS [] 5 _ _ _ _ rfl ?_
    refine WQ.guard 64 rfl (fun q2 => ?_) (fun q2 => ?_) <;> rw [q2]
    · refine WQ.runS [] 1000 _ _ _ _ rfl (WQ.nilS ?_)
      refine WR.condT rfl ?_
      repeat (first | refine WR.seq ?_ | refine WR.block ?_ | refine WR.scope ?_ | refine WR.skip ?_ | refine WR.exit ?_ | refine WR.condT rfl ?_ | refine WR.condF rfl ?_ | refine WR.reg (WQ.runS [] 1000 _ _ _ _ rfl ?_) | refine WQ.nilS ?_ | refine WR.dreg hmix (DW.runS [] 1000 _ _ _ _ _ _ rfl ?_))
      refine WR.ret ?_
      show QX .ret _
      exact hr _ d _ rfl
    have q2 : ¬ pa > 1 := of_decide_eq_false q2
    refine WQ.runS [] 1000 _ _ _ _ rfl (WQ.nilS ?_)
    refine WR.cond rfl (fun q3 => ?_) (fun q3 => ?_)
    · repeat (first | refine WR.seq ?_ | refine WR.block ?_ | refine WR.scope ?_ | refine WR.skip ?_ | refine WR.exit ?_ | refine WR.condT rfl ?_ | refine WR.condF rfl ?_ | refine WR.reg (WQ.runS [] 1000 _ _ _ _ rfl ?_) | refine WQ.nilS ?_ | refine WR.dreg hmix (DW.runS [] 1000 _ _ _ _ _ _ rfl ?_))
      refine WR.ret ?_
      show QX .ret _
      exact hr _ d _ rfl
    have q3 : ¬ ((px.length : Int) > 1000) := of_decide_eq_false q3
    have hpa : pa = 0 ∨ pa = 1 := by omega
    have hpx : px.length ≤ 1000 := by omega
    obtain ⟨fi', hdec⟩ := fi.step (w := ⟨pk, pa, px⟩) hpa hbd hpx
    have hdec : decide ((write d ⟨pk, pa, px⟩).2 = 0) = decide ((i : Int) < (m : Int)) := by rw [hdec]; simp
    have hws : d.ws.length ≤ 200 := by
      by_cases e : i ≤ m
      · have := (fi.live e).2.2; omega
      · have := (fi.dead (by omega)).2; omega
    have ft : Fit d px.length := ⟨by omega, fi.fuse, by have := fi.a0; unfold lim; omega, by have := fi.a1; unfold lim; omega⟩
    obtain ⟨hl0, hl1⟩ := write_len d ⟨pk, pa, px⟩
    refine WR.skip (WR.seq (WR.reg (WQ.runS [] 2 _ _ _ _ rfl ?_)))
    refine WQ.callH rfl rfl rfl rfl rfl (disk_lift (wrote_plain d ⟨pk, pa, px⟩ hpp ft) (by exact ⟨encW_in _, trivial⟩) trivial (hd_at (t := 1001) rfl rfl rfl rfl rfl)) (.put (.put .base rfl) rfl) rfl (WQ.runS [] 1000 _ _ _ _ rfl (WQ.nilS ?_))
    refine WR.seq (WR.seq (WR.reg (WQ.runS [] 1000 _ _ _ _ rfl (WQ.nilS ?_))))
    refine WR.cond rfl (fun h2 => ?_) (fun h2 => ?_)
    · rw [hdec] at h2; simp at h2
    refine WR.skip (WR.seq (WR.reg (WQ.runS [] 1000 _ _ _ _ rfl (WQ.nilS ?_))))
    refine WR.cond rfl (fun h3 => ?_) (fun h3 => ?_)
    · have h3 := of_decide_eq_true h3
      have hlen := hl0 h3
      refine WR.reg (WQ.runS [] 1000 _ _ _ _ rfl (WQ.nilS ?_))
      rw [wrapS d.ws.length (by omega)]
      unfold rc7_J1
      repeat (first | refine WR.seq ?_ | refine WR.block ?_ | refine WR.scope ?_ | refine WR.skip ?_ | refine WR.exit ?_ | refine WR.condT rfl ?_ | refine WR.condF rfl ?_ | refine WR.reg (WQ.runS [] 1000 _ _ _ _ rfl ?_) | refine WQ.nilS ?_ | refine WR.dreg hmix (DW.runS [] 1000 _ _ _ _ _ _ rfl ?_))
      rw [wrapS i (by omega)]
      rw [← hlen]
      refine WIr.again (WLr.weak (s := SL.toS ⟨fTm l m (i + 1) (write d ⟨pk, pa, px⟩).1, [], none, 1002, dol (write d ⟨pk, pa, px⟩).1, []⟩) ?_ ?_)
      · refine SW.tellR ?_ ?_
        · repeat (first | exact .nil | refine .cons rfl (.v (VLe.refl _)) ?_ | refine .cons rfl (.l _ _ rfl) ?_ | refine .cons rfl (.v (VLe.unk _ _)) ?_)
        · repeat (first | exact .nil | refine .cons rfl (.inl rfl) ?_)
      exact ih (i + 1) _ (by omega) fi'
    · have h3 := of_decide_eq_false h3
      have hlen := hl1 h3
      refine WR.skip ?_
      unfold rc7_J1
      repeat (first | refine WR.seq ?_ | refine WR.block ?_ | refine WR.scope ?_ | refine WR.skip ?_ | refine WR.exit ?_ | refine WR.condT rfl ?_ | refine WR.condF rfl ?_ | refine WR.reg (WQ.runS [] 1000 _ _ _ _ rfl ?_) | refine WQ.nilS ?_ | refine WR.dreg hmix (DW.runS [] 1000 _ _ _ _ _ _ rfl ?_))
      rw [wrapS i (by omega)]
      rw [← hlen]
      refine WIr.again (WLr.weak (s := SL.toS ⟨fTm l m (i + 1) (write d ⟨pk, pa, px⟩).1, [], none, 1002, dol (write d ⟨pk, pa, px⟩).1, []⟩) ?_ ?_)
      · refine SW.tellR ?_ ?_
        · repeat (first | exact .nil | refine .cons rfl (.v (VLe.refl _)) ?_ | refine .cons rfl (.l _ _ rfl) ?_ | refine .cons rfl (.v (VLe.unk _ _)) ?_)
        · repeat (first | exact .nil | refine .cons rfl (.inl rfl) ?_)
      exact ih (i + 1) _ (by omega) fi'

theorem areaOk {d : Dk} {n : Int} {b t : Nat} {h : H} (hd : HD h b t d) : SCall Go.Proofs.Try.prog [] 19 [.ptr b 0, .int .i64 n] none h (.ret (.tup [.str (areaF d n).1, .int .i64 (areaF d n).2])) none h :=
  disk_read (area_core d n) ⟨trivial, trivial⟩ ⟨trivial, trivial, trivial⟩ hd
theorem nowOk {d : Dk} {b t : Nat} {h : H} (hd : HD h b t d) : SCall Go.Proofs.Try.prog [] 21 [.ptr b 0] none h (.ret (.tup [.int .i64 (nowF d).1, .int .i64 (nowF d).2])) none h :=
  disk_read (now_core d) trivial ⟨trivial, trivial, trivial⟩ hd

theorem fuses_tail (m i : Nat) (hi : i ≤ 100) (d : Dk) (fi : FI m i d) {QN : S → Prop} :
    WR Go.Proofs.Try.prog [] fr7 rc7_J4 (SL.toS ⟨[(6, .v (.ptr 1000 0)), (7, .v (.int .i64 d.ws.length))], [], none, 1002, dol d, []⟩) QN (retX (RetS Go.Proofs.Try.prog Go.Proofs.Try.f7 (.bool true) 1000 [])) := by
  obtain ⟨h1, h2, ⟨r, h3, h4, h5, h6⟩, h7, h8, h9, h10⟩ := fi
  have hws : d.ws.length ≤ 200 := by
    by_cases e : i ≤ m
    · have := (h1 e).2.2; omega
    · have := (h2 (by omega)).2
      omega
  have hr := replayF_ok (l := d.ws) rfl rfl h3
  have hA : ∀ n, areaF (powerF d) n = areaF r n := by
    intro n
    simp only [areaF, powerF, hr.2.1, h4, h5]; rfl
  have hN : nowF (powerF d) = nowF r := by
    simp only [nowF, powerF, hr.2.1, h6]; rfl
  unfold rc7_J4
  repeat (first | refine WR.seq ?_ | refine WR.block ?_ | refine WR.scope ?_ | refine WR.skip ?_ | refine WR.exit ?_ | refine WR.condT rfl ?_ | refine WR.condF rfl ?_ | refine WR.reg (WQ.runS [] 1000 _ _ _ _ rfl ?_) | refine WQ.nilS ?_ | refine WR.dreg hmix (DW.runS [] 1000 _ _ _ _ _ _ rfl ?_))
  refine WQ.callH rfl rfl rfl rfl rfl (disk_lift (power_core d) (by exact trivial) trivial (hd_at (t := 1001) rfl rfl rfl rfl rfl)) (.put (.put .base rfl) rfl) rfl (WQ.runS [] 1000 _ _ _ _ rfl (WQ.nilS ?_))
  refine WR.seq (WR.seq (WR.reg (WQ.runS [] 1 _ _ _ _ rfl ?_)))
  refine WQ.callH rfl rfl rfl rfl rfl (disk_read (writes_core (powerF d) (by show d.ws.length ≤ _; omega)) (by exact trivial) (by exact ⟨encWs_in _, trivial⟩) (hd_at (t := 1001) rfl rfl rfl rfl rfl)) .base rfl (WQ.runS [] 1000 _ _ _ _ rfl (WQ.nilS ?_))
  refine WR.cond rfl (fun q1 => ?_) (fun q1 => ?_)
  · simp [powerF] at q1
  refine WR.skip (WR.seq (WR.reg (WQ.runS [] 1 _ _ _ _ rfl ?_)))
  refine WQ.callH rfl rfl rfl rfl rfl (disk_read (writes_core (powerF d) (by show d.ws.length ≤ _; omega)) (by exact trivial) (by exact ⟨encWs_in _, trivial⟩) (hd_at (t := 1001) rfl rfl rfl rfl rfl)) .base rfl ?_
  refine WQ.callH rfl rfl rfl rfl rfl (replay_some d.ws _ (by omega) (by unfold lim; omega) h3 _) (.new (.new .base rfl) rfl) rfl (WQ.runS [] 1000 _ _ _ _ rfl (WQ.nilS ?_))
  repeat (first | refine WR.seq ?_ | refine WR.block ?_ | refine WR.scope ?_ | refine WR.skip ?_ | refine WR.exit ?_ | refine WR.condT rfl ?_ | refine WR.condF rfl ?_ | refine WR.reg (WQ.runS [] 1000 _ _ _ _ rfl ?_) | refine WQ.nilS ?_ | refine WR.dreg hmix (DW.runS [] 1000 _ _ _ _ _ _ rfl ?_))
  refine WR.loop ?_
  unfold rc7_L2
  refine WLr.of ?_
  repeat (first | refine WR.seq ?_ | refine WR.block ?_ | refine WR.scope ?_ | refine WR.skip ?_ | refine WR.exit ?_ | refine WR.condT rfl ?_ | refine WR.condF rfl ?_ | refine WR.reg (WQ.runS [] 1000 _ _ _ _ rfl ?_) | refine WQ.nilS ?_ | refine WR.dreg hmix (DW.runS [] 1000 _ _ _ _ _ _ rfl ?_))
  refine WQ.callH rfl rfl rfl rfl rfl (areaOk (d := powerF d) (hd_at (t := 1001) rfl rfl rfl rfl rfl)) .base rfl (WQ.runS [] 1000 _ _ _ _ rfl ?_)
  repeat (first | refine WR.seq ?_ | refine WR.block ?_ | refine WR.scope ?_ | refine WR.skip ?_ | refine WR.exit ?_ | refine WR.condT rfl ?_ | refine WR.condF rfl ?_ | refine WR.reg (WQ.runS [] 1000 _ _ _ _ rfl ?_) | refine WQ.nilS ?_ | refine WR.dreg hmix (DW.runS [] 1000 _ _ _ _ _ _ rfl ?_))
  refine WQ.callH rfl rfl rfl rfl rfl (areaOk (d := r) (hd_at (t := 1003) rfl rfl rfl rfl rfl)) .base rfl (WQ.runS [] 1000 _ _ _ _ rfl ?_)
  rw [hA]
  repeat (first | refine WR.seq ?_ | refine WR.block ?_ | refine WR.scope ?_ | refine WR.skip ?_ | refine WR.exit ?_ | refine WR.condT rfl ?_ | refine WR.condF rfl ?_ | refine WR.reg (WQ.runS [] 1000 _ _ _ _ rfl ?_) | refine WQ.nilS ?_ | refine WR.dreg hmix (DW.runS [] 1000 _ _ _ _ _ _ rfl ?_))
  refine WR.cond rfl (fun q2 => ?_) (fun q2 => ?_)
  · simp at q2
  repeat (first | refine WR.seq ?_ | refine WR.block ?_ | refine WR.scope ?_ | refine WR.skip ?_ | refine WR.exit ?_ | refine WR.condT rfl ?_ | refine WR.condF rfl ?_ | refine WR.reg (WQ.runS [] 1000 _ _ _ _ rfl ?_) | refine WQ.nilS ?_ | refine WR.dreg hmix (DW.runS [] 1000 _ _ _ _ _ _ rfl ?_))
  refine WIr.again (WLr.of ?_)
  repeat (first | refine WR.seq ?_ | refine WR.block ?_ | refine WR.scope ?_ | refine WR.skip ?_ | refine WR.exit ?_ | refine WR.condT rfl ?_ | refine WR.condF rfl ?_ | refine WR.reg (WQ.runS [] 1000 _ _ _ _ rfl ?_) | refine WQ.nilS ?_ | refine WR.dreg hmix (DW.runS [] 1000 _ _ _ _ _ _ rfl ?_))
  refine WQ.callH rfl rfl rfl rfl rfl (areaOk (d := powerF d) (hd_at (t := 1001) rfl rfl rfl rfl rfl)) .base rfl (WQ.runS [] 1000 _ _ _ _ rfl ?_)
  repeat (first | refine WR.seq ?_ | refine WR.block ?_ | refine WR.scope ?_ | refine WR.skip ?_ | refine WR.exit ?_ | refine WR.condT rfl ?_ | refine WR.condF rfl ?_ | refine WR.reg (WQ.runS [] 1000 _ _ _ _ rfl ?_) | refine WQ.nilS ?_ | refine WR.dreg hmix (DW.runS [] 1000 _ _ _ _ _ _ rfl ?_))
  refine WQ.callH rfl rfl rfl rfl rfl (areaOk (d := r) (hd_at (t := 1003) rfl rfl rfl rfl rfl)) .base rfl (WQ.runS [] 1000 _ _ _ _ rfl ?_)
  rw [hA]
  repeat (first | refine WR.seq ?_ | refine WR.block ?_ | refine WR.scope ?_ | refine WR.skip ?_ | refine WR.exit ?_ | refine WR.condT rfl ?_ | refine WR.condF rfl ?_ | refine WR.reg (WQ.runS [] 1000 _ _ _ _ rfl ?_) | refine WQ.nilS ?_ | refine WR.dreg hmix (DW.runS [] 1000 _ _ _ _ _ _ rfl ?_))
  refine WR.cond rfl (fun q2 => ?_) (fun q2 => ?_)
  · simp at q2
  repeat (first | refine WR.seq ?_ | refine WR.block ?_ | refine WR.scope ?_ | refine WR.skip ?_ | refine WR.exit ?_ | refine WR.condT rfl ?_ | refine WR.condF rfl ?_ | refine WR.reg (WQ.runS [] 1000 _ _ _ _ rfl ?_) | refine WQ.nilS ?_ | refine WR.dreg hmix (DW.runS [] 1000 _ _ _ _ _ _ rfl ?_))
  refine WIr.again (WLr.of ?_)
  repeat (first | refine WR.seq ?_ | refine WR.block ?_ | refine WR.scope ?_ | refine WR.skip ?_ | refine WR.exit ?_ | refine WR.condT rfl ?_ | refine WR.condF rfl ?_ | refine WR.reg (WQ.runS [] 1000 _ _ _ _ rfl ?_) | refine WQ.nilS ?_ | refine WR.dreg hmix (DW.runS [] 1000 _ _ _ _ _ _ rfl ?_))
  refine WQ.callH rfl rfl rfl rfl rfl (nowOk (d := powerF d) (hd_at (t := 1001) rfl rfl rfl rfl rfl)) .base rfl (WQ.runS [] 1000 _ _ _ _ rfl ?_)
  repeat (first | refine WR.seq ?_ | refine WR.block ?_ | refine WR.scope ?_ | refine WR.skip ?_ | refine WR.exit ?_ | refine WR.condT rfl ?_ | refine WR.condF rfl ?_ | refine WR.reg (WQ.runS [] 1000 _ _ _ _ rfl ?_) | refine WQ.nilS ?_ | refine WR.dreg hmix (DW.runS [] 1000 _ _ _ _ _ _ rfl ?_))
  refine WQ.callH rfl rfl rfl rfl rfl (nowOk (d := r) (hd_at (t := 1003) rfl rfl rfl rfl rfl)) .base rfl (WQ.runS [] 1000 _ _ _ _ rfl ?_)
  rw [hN]
  repeat (first | refine WR.seq ?_ | refine WR.block ?_ | refine WR.scope ?_ | refine WR.skip ?_ | refine WR.exit ?_ | refine WR.condT rfl ?_ | refine WR.condF rfl ?_ | refine WR.reg (WQ.runS [] 1000 _ _ _ _ rfl ?_) | refine WQ.nilS ?_ | refine WR.dreg hmix (DW.runS [] 1000 _ _ _ _ _ _ rfl ?_))
  rw [show decide ((nowF r).1 = (nowF r).1) = true from decide_eq_true rfl]
  exact WR.ret (ret7 rfl (og_low rfl))

theorem fuses_mid (l : List Wr) (hl : l.length ≤ 100) (m : Nat) (hm : m < 9223372036854775808) {QN : S → Prop} :
    WR Go.Proofs.Try.prog [] fr7 rc7_J5 (SL.toS ⟨[(0, .v (.lst (l.map encW) .unk)), (1, .v (.int .i64 m)), (6, .v (.ptr 1000 0))], [], none, 1002, dol d0, []⟩) QN (retX (RetS Go.Proofs.Try.prog Go.Proofs.Try.f7 (.bool true) 1000 [])) := by
  have e1 : ((m : Int).tmod 120) = ((m % 120 : Nat) : Int) := by
    rw [Int.tmod_eq_emod_of_nonneg (by omega)]; rfl
  have hk : m % 120 < 120 := Nat.mod_lt _ (by decide)
  generalize m % 120 = k at e1 hk
  unfold rc7_J5
  refine WR.seq (WR.reg (WQ.runS [] 1000 _ _ _ _ rfl (WQ.nilS ?_)))
  rw [e1]
  have hf : fuseF d0 k = ({ d0 with fuse := k }, 0) := by
    have : ¬ (-1 : Int) > k := by omega
    simp [fuseF, d0, this]
  have fc := fuse_core d0 k
  rw [hf] at fc
  refine WR.seq (WR.reg (WQ.runS [] 1000 _ _ _ _ rfl ?_))
  refine WQ.callH rfl rfl rfl rfl rfl (disk_lift fc (by exact ⟨trivial, trivial⟩) trivial (hd_at (t := 1001) rfl rfl rfl rfl rfl)) (.put (.put .base rfl) rfl) rfl (WQ.runS [] 1000 _ _ _ _ rfl (WQ.nilS ?_))
  refine WR.seq (WR.reg (WQ.runS [] 1000 _ _ _ _ rfl (WQ.nilS ?_)))
  repeat (first | refine WR.seq ?_ | refine WR.block ?_ | refine WR.scope ?_ | refine WR.skip ?_ | refine WR.exit ?_ | refine WR.condT rfl ?_ | refine WR.condF rfl ?_ | refine WR.reg (WQ.runS [] 1000 _ _ _ _ rfl ?_) | refine WQ.nilS ?_ | refine WR.dreg hmix (DW.runS [] 1000 _ _ _ _ _ _ rfl ?_))
  refine WR.loop (WLr.weak (s := SL.toS ⟨fTm l k 0 { d0 with fuse := k }, [], none, 1002, dol { d0 with fuse := k }, []⟩) ?_ (fuses_loop l hl k hk (fun tm d lc h => ?_) (fun tm d lc fi g6 g7 => ?_) l.length 0 _ (by omega) ?_))
  · refine SW.tellR ?_ ?_
    · repeat (first | exact .nil | refine .cons rfl (.v (VLe.refl _)) ?_ | refine .cons rfl (.l _ _ rfl) ?_ | refine .cons rfl (.v (VLe.unk _ _)) ?_)
    · repeat (first | exact .nil | refine .cons rfl (.inl rfl) ?_)
  · exact ret7 h (og_low rfl)
  · show WR Go.Proofs.Try.prog [] _ _ _ _ _
    refine WR.weak (s := SL.toS ⟨[(6, .v (.ptr 1000 0)), (7, .v (.int .i64 d.ws.length))], [], none, 1002, dol d, []⟩) (SW.tellR (.cons g6 (.v (VLe.refl _)) (.cons g7 (.v (VLe.refl _)) .nil)) .nil) ?_
    exact fuses_tail k l.length hl d fi
  · exact ⟨fun _ => ⟨rfl, by simp, rfl⟩, fun h => by omega, ⟨d0, rfl, rfl, rfl, rfl⟩, by simp; omega, by simp [d0], by simp [d0], by simp [d0, VM.dl]⟩

theorem fuses_abs (l : List Wr) (hl : l.length ≤ 100) (n : Int) (h1 : -9223372036854775808 ≤ n) (h2 : n < 9223372036854775808) {QN : S → Prop} :
    WR Go.Proofs.Try.prog [] fr7 rc7_J6 (SL.toS ⟨[(0, .v (.lst (l.map encW) .unk)), (1, .v (.int .i64 n)), (6, .v (.ptr 1000 0))], [], none, 1002, dol d0, []⟩) QN (retX (RetS Go.Proofs.Try.prog Go.Proofs.Try.f7 (.bool true) 1000 [])) := by
  unfold rc7_J6
  refine WR.seq (WR.seq (WR.reg (WQ.runS [] 1000 _ _ _ _ rfl (WQ.nilS ?_))))
  refine WR.cond rfl (fun q => ?_) (fun q => ?_)
  · have q := of_decide_eq_true q
    refine WR.reg (WQ.runS [] 1000 _ _ _ _ rfl (WQ.nilS ?_))
    have e1 : IntKind.i64.wrap (n + 1) = n + 1 := wrap64 (by omega) (by omega)
    have e2 : IntKind.i64.wrap (0 - (n + 1)) = (((-(n + 1)).toNat : Nat) : Int) := by rw [wrap64 (by omega) (by omega)]; omega
    rw [e1, e2]
    refine WR.weak ?_ (fuses_mid l hl (-(n + 1)).toNat (by omega))
    refine SW.tellR ?_ ?_
    · repeat (first | exact .nil | refine .cons rfl (.v (VLe.refl _)) ?_ | refine .cons rfl (.l _ _ rfl) ?_ | refine .cons rfl (.v (VLe.unk _ _)) ?_)
    · repeat (first | exact .nil | refine .cons rfl (.inl rfl) ?_)
  · have q := of_decide_eq_false q
    refine WR.skip ?_
    obtain ⟨m, rfl⟩ := Int.eq_ofNat_of_zero_le (show 0 ≤ n by omega)
    refine WR.weak ?_ (fuses_mid l hl m (by omega))
    refine SW.tellR ?_ ?_
    · repeat (first | exact .nil | refine .cons rfl (.v (VLe.refl _)) ?_ | refine .cons rfl (.l _ _ rfl) ?_ | refine .cons rfl (.v (VLe.unk _ _)) ?_)
    · repeat (first | exact .nil | refine .cons rfl (.inl rfl) ?_)

theorem fuses_spec (l : List Wr) (n : Int) (h1 : -9223372036854775808 ≤ n) (h2 : n < 9223372036854775808) (h : H) : SCall Go.Proofs.Try.prog [] 7 [.lst (l.map encW) .unk, .int .i64 n] none h (.ret (.bool true)) none h := by
  refine SCall.pure0 rfl ?_ (by exact ⟨⟨encWs_in l, trivial⟩, trivial, trivial⟩) (by exact trivial) h
  refine SCall.listed (fn := Go.Proofs.Try.f7) (by kernel_rfl) res7 (by kernel_rfl) (by kernel_rfl) ((by decide)) rfl (trivial) trivial ?_
  unfold rc7
  refine WR.seq (WR.reg (WQ.runS [] 1000 _ _ _ _ rfl (WQ.nilS ?_)))
  refine WR.seq (WR.reg (WQ.callH rfl rfl rfl rfl rfl (awake_spec _) .base rfl (WQ.runS [] 1000 _ _ _ _ rfl (WQ.nilS ?_))))
  refine WR.seq (WR.reg (WQ.callH rfl rfl rfl rfl rfl (new_call _) (.new (.new .base rfl) rfl) rfl (WQ.runS [] 1000 _ _ _ _ rfl (WQ.nilS ?_))))
  refine WR.seq (WR.seq (WR.reg (WQ.runS [] 1000 _ _ _ _ rfl (WQ.nilS ?_))))
  refine WR.condF rfl (WR.skip ?_)
  refine WR.seq (WR.seq (WR.reg (WQ.runS [] 1000 _ _ _ _ rfl (WQ.nilS ?_))))
  refine WR.cond rfl (fun q => ?_) (fun q => ?_)
  · have q := of_decide_eq_true q
    have hn : 100 ≤ (l.map encW).length := by omega
    refine WR.reg (WQ.runS [] 1 _ _ _ _ rfl (WQ.lightS rfl rfl rfl (slc_take rfl (n := 100) rfl hn) rfl (WQ.runS [] 1000 _ _ _ _ rfl (WQ.nilS ?_))))
    rw [← List.map_take]
    refine WR.weak ?_ (fuses_abs (l.take 100) (by simp; omega) n h1 h2)
    refine SW.tellR ?_ ?_
    · repeat (first | exact .nil | refine .cons rfl (.v (VLe.refl _)) ?_ | refine .cons rfl (.l _ _ rfl) ?_ | refine .cons rfl (.v (VLe.unk _ _)) ?_)
    · repeat (first | exact .nil | refine .cons rfl (.inl rfl) ?_)
  · have q := of_decide_eq_false q
    refine WR.skip ?_
    refine WR.weak ?_ (fuses_abs l (by simp at q; omega) n h1 h2)
    refine SW.tellR ?_ ?_
    · repeat (first | exact .nil | refine .cons rfl (.v (VLe.refl _)) ?_ | refine .cons rfl (.l _ _ rfl) ?_ | refine .cons rfl (.v (VLe.unk _ _)) ?_)
    · repeat (first | exact .nil | refine .cons rfl (.inl rfl) ?_)
end Go.VM
