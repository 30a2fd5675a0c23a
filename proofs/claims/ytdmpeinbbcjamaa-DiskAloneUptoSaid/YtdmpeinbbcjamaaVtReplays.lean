/- The law DiskReplays. -/
import Derived.Test.YtdmpeinbbcjamaaVtDisk6
set_option maxRecDepth 100000
set_option linter.unusedVariables false
set_option linter.unusedSimpArgs false
namespace Go.VM
open Go.RowKit

theorem replayF_ok : ∀ {l : List Wr} {d d' : Dk} {e : Int}, d.off = false → d.fuse = -1 → replayF l d = (some d', e) → e = 0 ∧ d'.off = false ∧ d'.fuse = -1 ∧ d'.ws = d.ws ++ l
  | [], d, d', e, h1, h2, h => by simp only [replayF] at h; cases h; simp [h1, h2]
  | w :: r, d, d', e, h1, h2, h => by
    simp only [replayF] at h
    split at h
    · cases h
    · split at h
      · cases h
      · rename_i hne
        have hw : (write d w).1.off = false ∧ (write d w).1.fuse = -1 ∧ (write d w).1.ws = d.ws ++ [w] := by
          unfold write at hne ⊢
          simp only [h1, h2] at hne ⊢
          simp only [Bool.false_eq_true, if_false] at hne ⊢
          split at hne
          · simp at hne
          · rename_i hf
            rw [if_neg hf]
            simp only [show ¬ ((-1 : Int) = 0) by decide, show ¬ ((0 : Int) < -1) by decide, if_false]
            unfold done
            split
            · split <;> simp [h1, h2]
            · split
              · split <;> simp [h1, h2]
              · simp [h1, h2]
        obtain ⟨a, b, c, q⟩ := replayF_ok hw.1 hw.2.1 h
        exact ⟨a, b, c, by rw [q, hw.2.2]; simp⟩

theorem hd_at {nx : Nat} {ol : OL} {lc : LM} {b t : Nat} {d : Dk} (hb : Nat.ble glim b = true) (ht : Nat.ble glim t = true) (hbt : Nat.beq b t = false) (h1 : og ol b = some (.cells false (encD d t))) (h2 : og ol t = some (.tok d.ws.length)) : HD ⟨nx, og ol, lc⟩ b t d :=
  ⟨Nat.le_of_ble_eq_true hb, Nat.le_of_ble_eq_true ht, Nat.ne_of_beq_eq_false hbt, h1, h2⟩

theorem area0_core {d : Dk} (h : d.off = false) : SCall Go.Proofs.Try.prog [] 19 [.ptr 1000 0, .int .i64 0] none ⟨1002, og (dol d), []⟩ (.ret (.tup [.str d.a0, .int .i64 0])) none ⟨1002, og (dol d), []⟩ := by
  have := area_core d 0
  rwa [show areaF d 0 = (d.a0, 0) by simp [areaF, h]] at this
theorem area1_core {d : Dk} (h : d.off = false) : SCall Go.Proofs.Try.prog [] 19 [.ptr 1000 0, .int .i64 1] none ⟨1002, og (dol d), []⟩ (.ret (.tup [.str d.a1, .int .i64 0])) none ⟨1002, og (dol d), []⟩ := by
  have := area_core d 1
  rwa [show areaF d 1 = (d.a1, 0) by simp [areaF, h]] at this
theorem now0_core {d : Dk} (h : d.off = false) : SCall Go.Proofs.Try.prog [] 21 [.ptr 1000 0] none ⟨1002, og (dol d), []⟩ (.ret (.tup [.int .i64 d.root, .int .i64 0])) none ⟨1002, og (dol d), []⟩ := by
  have := now_core d
  rwa [show nowF d = (d.root, 0) by simp [nowF, h]] at this

noncomputable abbrev fr6 : Fr := ⟨Go.Proofs.Try.f6.ntmps, none, 6⟩
def r6Tm (ws : List Wr) (i : Nat) : TM := [(0, .v (.lst (ws.map encW) .unk)), (3, .v (.bool true)), (4, .v (.int .i64 i))]

theorem chk_loop (ws : List Wr) (hws : ws.length ≤ 200) {QN : S → Prop} {QX : X → S → Prop}
    (hr : ∀ tm, tg tm 2 = some (.v (.bool true)) → QX .ret (SL.toS ⟨tm, [], none, 1000, [], []⟩))
    (hx : (∀ w ∈ ws, w.data.length ≤ 1000) → ∀ tm, tg tm 0 = some (.v (.lst (ws.map encW) .unk)) → tg tm 3 = some (.v (.bool true)) → QX (.exit 0) (SL.toS ⟨tm, [], none, 1000, [], []⟩)) : ∀ n i : Nat, i + n = ws.length → (∀ w ∈ ws.take i, w.data.length ≤ 1000) →
    WLr Go.Proofs.Try.prog [] fr6 rc6_L1 (SL.toS ⟨r6Tm ws i, [], none, 1000, [], []⟩) QN QX := by
  intro n
  induction n with
  | zero =>
    intro i hi hall
    unfold rc6_L1
    refine WLr.of ?_
    repeat (first | refine WR.seq ?_ | refine WR.block ?_ | refine WR.scope ?_ | refine WR.skip ?_ | refine WR.exit ?_ | refine WR.condT rfl ?_ | refine WR.condF rfl ?_ | refine WR.reg (WQ.runS [] 1000 _ _ _ _ rfl ?_) | refine WQ.nilS ?_ | refine WR.dreg hmix (DW.runS [] 1000 _ _ _ _ _ _ rfl ?_))
    refine WR.cond rfl (fun h1 => ?_) (fun h1 => ?_)
    · have h1 := of_decide_eq_true h1
      simp at h1; omega
    · repeat (first | refine WR.seq ?_ | refine WR.block ?_ | refine WR.scope ?_ | refine WR.skip ?_ | refine WR.exit ?_ | refine WR.condT rfl ?_ | refine WR.condF rfl ?_ | refine WR.reg (WQ.runS [] 1000 _ _ _ _ rfl ?_) | refine WQ.nilS ?_ | refine WR.dreg hmix (DW.runS [] 1000 _ _ _ _ _ _ rfl ?_))
      exact hx (by rwa [List.take_of_length_le (by omega)] at hall) _ rfl rfl
  | succ n ih =>
    intro i hi hall
    have hlt : i < ws.length := by omega
    have hg : (ws.map encW)[i]? = some (encW ws[i]) := by simp [hlt]
    have htk : ws.take (i + 1) = ws.take i ++ [ws[i]] := by rw [List.take_succ_eq_append_getElem hlt]
    generalize ws[i] = w at hg htk
    obtain ⟨k, a, x⟩ := w
    unfold rc6_L1
    refine WLr.of ?_
    repeat (first | refine WR.seq ?_ | refine WR.block ?_ | refine WR.scope ?_ | refine WR.skip ?_ | refine WR.exit ?_ | refine WR.condT rfl ?_ | refine WR.condF rfl ?_ | refine WR.reg (WQ.runS [] 1000 _ _ _ _ rfl ?_) | refine WQ.nilS ?_ | refine WR.dreg hmix (DW.runS [] 1000 _ _ _ _ _ _ rfl ?_))
    refine WR.cond rfl (fun h1 => ?_) (fun h1 => ?_)
    rotate_left
    · have h1 := of_decide_eq_false h1
      simp at h1; omega
    refine WR.skip (WR.seq (WR.block (WR.seq (WR.reg ?_))))
    refine WQ.runS [] 2 _ _ _ _ rfl (WQ.lightS rfl rfl rfl (ia_at rfl rfl hg rfl) rfl ?_)
    refine WQ.runS [] 1000 _ _ _ _ rfl (WQ.nilS ?_)
    refine WR.cond rfl (fun h2 => ?_) (fun h2 => ?_)
    · repeat (first | refine WR.seq ?_ | refine WR.block ?_ | refine WR.scope ?_ | refine WR.skip ?_ | refine WR.exit ?_ | refine WR.condT rfl ?_ | refine WR.condF rfl ?_ | refine WR.reg (WQ.runS [] 1000 _ _ _ _ rfl ?_) | refine WQ.nilS ?_ | refine WR.dreg hmix (DW.runS [] 1000 _ _ _ _ _ _ rfl ?_))
      refine WR.ret ?_
      show QX .ret _
      exact hr _ rfl
    · have h2 : ¬ ((x.length : Int) > 1000) := of_decide_eq_false h2
      repeat (first | refine WR.seq ?_ | refine WR.block ?_ | refine WR.scope ?_ | refine WR.skip ?_ | refine WR.exit ?_ | refine WR.condT rfl ?_ | refine WR.condF rfl ?_ | refine WR.reg (WQ.runS [] 1000 _ _ _ _ rfl ?_) | refine WQ.nilS ?_ | refine WR.dreg hmix (DW.runS [] 1000 _ _ _ _ _ _ rfl ?_))
      rw [wrapS i (by omega)]
      refine WIr.again (WLr.weak (s := SL.toS ⟨r6Tm ws (i + 1), [], none, 1000, [], []⟩) ?_ ?_)
      · refine SW.tellR ?_ ?_
        · repeat (first | exact .nil | refine .cons rfl (.v (VLe.refl _)) ?_ | refine .cons rfl (.l _ _ rfl) ?_ | refine .cons rfl (.v (VLe.unk _ _)) ?_)
        · repeat (first | exact .nil | refine .cons rfl (.inl rfl) ?_)
      refine ih (i + 1) (by omega) fun w hw => ?_
      rw [htk] at hw
      rcases List.mem_append.1 hw with hw | hw
      · exact hall w hw
      · simp at hw; subst hw; show x.length ≤ 1000; omega

theorem dl_le : ∀ {ws : List Wr}, (∀ w ∈ ws, w.data.length ≤ 1000) → dl ws ≤ 1000 * ws.length
  | [], _ => by simp [dl]
  | w :: r, h => by
    have h1 := h w (by simp)
    have h2 := dl_le (ws := r) fun x hx => h x (by simp [hx])
    simp only [dl, List.length_cons]; omega

def rc6_rest : RC := match rc6 with | .seq _ (.seq _ (.seq _ r)) => r | _ => .skip

theorem ret6 {tm : TM} {ol : OL} {nx : Nat} {lc : LM} (h : tg tm 2 = some (.v (.bool true))) (hol : ∀ b, b < 1000 → og ol b = none) : retX (RetS Go.Proofs.Try.prog Go.Proofs.Try.f6 (.bool true) 1000 []) .ret (SL.toS ⟨tm, [], none, nx, ol, lc⟩) := by
  refine ⟨rfl, rfl, ⟨[.bool true], ?_, VLe.refl _⟩, fun b hb => (hol b hb).symm⟩
  show resV Go.Proofs.Try.prog _ _ [.tmp 2] = _
  simp only [resV, SL.toS, h]

theorem replays_rest (ws : List Wr) (hws : ws.length ≤ 200) {QN : S → Prop} :
    WR Go.Proofs.Try.prog [] fr6 rc6_rest (SL.toS ⟨[(0, .v (.lst (ws.map encW) .unk)), (3, .v (.bool true))], [], none, 1000, [], []⟩) QN (retX (RetS Go.Proofs.Try.prog Go.Proofs.Try.f6 (.bool true) 1000 [])) := by
  unfold rc6_rest rc6
  dsimp only
  repeat (first | refine WR.seq ?_ | refine WR.block ?_ | refine WR.scope ?_ | refine WR.skip ?_ | refine WR.exit ?_ | refine WR.condT rfl ?_ | refine WR.condF rfl ?_ | refine WR.reg (WQ.runS [] 1000 _ _ _ _ rfl ?_) | refine WQ.nilS ?_ | refine WR.dreg hmix (DW.runS [] 1000 _ _ _ _ _ _ rfl ?_))
  refine WR.loop (WLr.weak (s := SL.toS ⟨r6Tm ws 0, [], none, 1000, [], []⟩) ?_ (chk_loop ws hws (fun tm h => ?_) (fun hall tm h0 h3 => ?_) ws.length 0 (by omega) (by simp)))
  · refine SW.tellR ?_ ?_
    · repeat (first | exact .nil | refine .cons rfl (.v (VLe.refl _)) ?_ | refine .cons rfl (.l _ _ rfl) ?_ | refine .cons rfl (.v (VLe.unk _ _)) ?_)
    · repeat (first | exact .nil | refine .cons rfl (.inl rfl) ?_)
  · exact ret6 h (fun _ _ => rfl)
  have hdl : dl ws ≤ lim := by have := dl_le hall; unfold lim; omega
  show WR Go.Proofs.Try.prog [] _ _ _ _ _
  refine WR.weak (s := SL.toS ⟨[(0, .v (.lst (ws.map encW) .unk)), (3, .v (.bool true))], [], none, 1000, [], []⟩) (SW.tellR (.cons h0 (.v (VLe.refl _)) (.cons h3 (.v (VLe.refl _)) .nil)) .nil) ?_
  rcases hrp : replayF ws d0 with ⟨o, e⟩
  cases o with
  | none =>
    repeat (first | refine WR.seq ?_ | refine WR.block ?_ | refine WR.scope ?_ | refine WR.skip ?_ | refine WR.exit ?_ | refine WR.condT rfl ?_ | refine WR.condF rfl ?_ | refine WR.reg (WQ.runS [] 1000 _ _ _ _ rfl ?_) | refine WQ.nilS ?_ | refine WR.dreg hmix (DW.runS [] 1000 _ _ _ _ _ _ rfl ?_))
    refine WQ.callH rfl rfl rfl rfl rfl (replay_none ws _ (by omega) hdl hrp _) .base rfl (WQ.runS [] 1000 _ _ _ _ rfl ?_)
    repeat (first | refine WR.seq ?_ | refine WR.block ?_ | refine WR.scope ?_ | refine WR.skip ?_ | refine WR.exit ?_ | refine WR.condT rfl ?_ | refine WR.condF rfl ?_ | refine WR.reg (WQ.runS [] 1000 _ _ _ _ rfl ?_) | refine WQ.nilS ?_ | refine WR.dreg hmix (DW.runS [] 1000 _ _ _ _ _ _ rfl ?_))
    refine WQ.callH rfl rfl rfl rfl rfl (replayR_none ws _ (by omega) hdl hrp _) .base rfl (WQ.runS [] 1000 _ _ _ _ rfl ?_)
    refine WQ.nilS ?_
    refine WR.seq (WR.seq (WR.reg (WQ.runS [] 6 _ _ _ _ rfl ?_)))
    rw [show (!decide (e = e)) = false by simp]
    refine WQ.runS [] 1000 _ _ _ _ rfl (WQ.nilS ?_)
    repeat (first | refine WR.seq ?_ | refine WR.block ?_ | refine WR.scope ?_ | refine WR.skip ?_ | refine WR.exit ?_ | refine WR.condT rfl ?_ | refine WR.condF rfl ?_ | refine WR.reg (WQ.runS [] 1000 _ _ _ _ rfl ?_) | refine WQ.nilS ?_ | refine WR.dreg hmix (DW.runS [] 1000 _ _ _ _ _ _ rfl ?_))
    exact WR.ret (ret6 rfl fun _ _ => rfl)
  | some d =>
    obtain ⟨rfl, q1, q2, q3⟩ := replayF_ok rfl rfl hrp
    have q3 : d.ws = ws := by simpa [d0] using q3
    repeat (first | refine WR.seq ?_ | refine WR.block ?_ | refine WR.scope ?_ | refine WR.skip ?_ | refine WR.exit ?_ | refine WR.condT rfl ?_ | refine WR.condF rfl ?_ | refine WR.reg (WQ.runS [] 1000 _ _ _ _ rfl ?_) | refine WQ.nilS ?_ | refine WR.dreg hmix (DW.runS [] 1000 _ _ _ _ _ _ rfl ?_))
    refine WQ.callH rfl rfl rfl rfl rfl (replay_some ws _ (by omega) hdl hrp _) (.new (.new .base rfl) rfl) rfl (WQ.runS [] 1000 _ _ _ _ rfl ?_)
    repeat (first | refine WR.seq ?_ | refine WR.block ?_ | refine WR.scope ?_ | refine WR.skip ?_ | refine WR.exit ?_ | refine WR.condT rfl ?_ | refine WR.condF rfl ?_ | refine WR.reg (WQ.runS [] 1000 _ _ _ _ rfl ?_) | refine WQ.nilS ?_ | refine WR.dreg hmix (DW.runS [] 1000 _ _ _ _ _ _ rfl ?_))
    refine WQ.callH rfl rfl rfl rfl rfl (replayR_some ws _ (by omega) hdl hrp _) (.new (.new .base rfl) rfl) rfl (WQ.runS [] 1000 _ _ _ _ rfl ?_)
    repeat (first | refine WR.seq ?_ | refine WR.block ?_ | refine WR.scope ?_ | refine WR.skip ?_ | refine WR.exit ?_ | refine WR.condT rfl ?_ | refine WR.condF rfl ?_ | refine WR.reg (WQ.runS [] 1000 _ _ _ _ rfl ?_) | refine WQ.nilS ?_ | refine WR.dreg hmix (DW.runS [] 1000 _ _ _ _ _ _ rfl ?_))
    refine WQ.callH rfl rfl rfl rfl rfl (disk_read (area0_core q1) (by exact ⟨trivial, trivial⟩) (by exact ⟨trivial, trivial, trivial⟩) (hd_at (t := 1001) rfl rfl rfl rfl rfl)) .base rfl (WQ.runS [] 1000 _ _ _ _ rfl ?_)
    repeat (first | refine WR.seq ?_ | refine WR.block ?_ | refine WR.scope ?_ | refine WR.skip ?_ | refine WR.exit ?_ | refine WR.condT rfl ?_ | refine WR.condF rfl ?_ | refine WR.reg (WQ.runS [] 1000 _ _ _ _ rfl ?_) | refine WQ.nilS ?_ | refine WR.dreg hmix (DW.runS [] 1000 _ _ _ _ _ _ rfl ?_))
    refine WQ.callH rfl rfl rfl rfl rfl (disk_read (area1_core q1) (by exact ⟨trivial, trivial⟩) (by exact ⟨trivial, trivial, trivial⟩) (hd_at (t := 1001) rfl rfl rfl rfl rfl)) .base rfl (WQ.runS [] 1000 _ _ _ _ rfl ?_)
    repeat (first | refine WR.seq ?_ | refine WR.block ?_ | refine WR.scope ?_ | refine WR.skip ?_ | refine WR.exit ?_ | refine WR.condT rfl ?_ | refine WR.condF rfl ?_ | refine WR.reg (WQ.runS [] 1000 _ _ _ _ rfl ?_) | refine WQ.nilS ?_ | refine WR.dreg hmix (DW.runS [] 1000 _ _ _ _ _ _ rfl ?_))
    refine WQ.callH rfl rfl rfl rfl rfl (disk_read (now0_core q1) (by exact trivial) (by exact ⟨trivial, trivial, trivial⟩) (hd_at (t := 1001) rfl rfl rfl rfl rfl)) .base rfl (WQ.runS [] 1000 _ _ _ _ rfl ?_)
    repeat (first | refine WR.seq ?_ | refine WR.block ?_ | refine WR.scope ?_ | refine WR.skip ?_ | refine WR.exit ?_ | refine WR.condT rfl ?_ | refine WR.condF rfl ?_ | refine WR.reg (WQ.runS [] 1000 _ _ _ _ rfl ?_) | refine WQ.nilS ?_ | refine WR.dreg hmix (DW.runS [] 1000 _ _ _ _ _ _ rfl ?_))
    refine WQ.callH rfl rfl rfl rfl rfl (disk_read (writes_core d (by rw [q3]; omega)) (by exact trivial) (by exact ⟨encWs_in _, trivial⟩) (hd_at (t := 1001) rfl rfl rfl rfl rfl)) .base rfl (WQ.runS [] 1 _ _ _ _ rfl ?_)
    rw [q3]
    refine WQ.callH rfl rfl rfl rfl rfl (same_spec ws (by omega) _ _ _) .base rfl (WQ.runS [] 1000 _ _ _ _ rfl ?_)
    refine WQ.nilS ?_
    refine WR.seq (WR.reg (WQ.runS [] 9 _ _ _ _ rfl ?_))
    rw [show decide (d.a0 = d.a0) = true from decide_eq_true rfl]
    refine WQ.runS [] 9 _ _ _ _ rfl ?_
    rw [show decide (d.a1 = d.a1) = true from decide_eq_true rfl]
    refine WQ.runS [] 8 _ _ _ _ rfl ?_
    rw [show decide (d.root = d.root) = true from decide_eq_true rfl]
    refine WQ.runS [] 1000 _ _ _ _ rfl (WQ.nilS ?_)
    exact WR.ret (ret6 rfl (og_low rfl))

theorem replays_spec (ws : List Wr) (h : H) : SCall Go.Proofs.Try.prog [] 6 [.lst (ws.map encW) .unk] none h (.ret (.bool true)) none h := by
  refine SCall.pure0 rfl ?_ (by exact ⟨⟨encWs_in ws, trivial⟩, trivial⟩) (by exact trivial) h
  refine SCall.listed (fn := Go.Proofs.Try.f6) (by kernel_rfl) res6 (by kernel_rfl) (by kernel_rfl) ((by decide)) rfl (trivial) trivial ?_
  unfold rc6
  refine WR.seq (WR.reg (WQ.runS [] 1000 _ _ _ _ rfl (WQ.nilS ?_)))
  refine WR.seq (WR.reg (WQ.callH rfl rfl rfl rfl rfl (awake_spec _) .base rfl (WQ.runS [] 1000 _ _ _ _ rfl (WQ.nilS ?_))))
  refine WR.seq (WR.seq (WR.reg (WQ.runS [] 1000 _ _ _ _ rfl (WQ.nilS ?_))))
  refine WR.cond rfl (fun h1 => ?_) (fun h1 => ?_)
  · have h1 := of_decide_eq_true h1
    have hn : 200 ≤ (ws.map encW).length := by omega
    refine WR.reg (WQ.runS [] 1 _ _ _ _ rfl (WQ.lightS rfl rfl rfl (slc_take rfl (n := 200) rfl hn) rfl (WQ.runS [] 1000 _ _ _ _ rfl (WQ.nilS ?_))))
    rw [← List.map_take]
    refine WR.weak ?_ (replays_rest (ws.take 200) (by simp; omega))
    refine SW.tellR ?_ ?_
    · repeat (first | exact .nil | refine .cons rfl (.v (VLe.refl _)) ?_ | refine .cons rfl (.l _ _ rfl) ?_ | refine .cons rfl (.v (VLe.unk _ _)) ?_)
    · repeat (first | exact .nil | refine .cons rfl (.inl rfl) ?_)
  · have h1 := of_decide_eq_false h1
    refine WR.skip ?_
    refine WR.weak ?_ (replays_rest ws (by simp at h1; omega))
    refine SW.tellR ?_ ?_
    · repeat (first | exact .nil | refine .cons rfl (.v (VLe.refl _)) ?_ | refine .cons rfl (.l _ _ rfl) ?_ | refine .cons rfl (.v (VLe.unk _ _)) ?_)
    · repeat (first | exact .nil | refine .cons rfl (.inl rfl) ?_)
end Go.VM
