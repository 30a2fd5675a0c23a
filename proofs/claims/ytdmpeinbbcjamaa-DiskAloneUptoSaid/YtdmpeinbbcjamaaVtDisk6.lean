/- The disk of the program and the document's: Replay; the calls at the head of all laws. -/
import Derived.Test.YtdmpeinbbcjamaaVtDisk5
set_option maxRecDepth 100000
set_option linter.unusedVariables false
set_option linter.unusedSimpArgs false
namespace Go.VM
open Go.RowKit

theorem nd_lift {f : FuncId} {xs : List V} {d : Dk} {h : H} (core : SCall Go.Proofs.Try.prog [] f xs none ⟨1000, og [], []⟩ (.ret (.tup [.ptr 1000 0, .int .i64 0])) none ⟨1002, og (dol d), []⟩) (ha : Ins (· < glim) xs) : SCall Go.Proofs.Try.prog [] f xs none h (.ret (.tup [.ptr h.nxt 0, .int .i64 0])) none (nd h d) := by
  have r0 : ρL [] h.nxt 1000 = h.nxt := (ρL_new (bs := []) (i := 1000) (Nat.le_refl _)).trans (by simp [glim])
  have r1 : ρL [] h.nxt 1001 = h.nxt + 1 := (ρL_new (bs := []) (i := 1001) (by decide)).trans (by simp [glim])
  refine SCall.frameL (n := 2) [] rfl core .nil (by simp) (fun i => ?_) rfl (fun i c o hi ho => by cases hi) trivial ha (by exact ⟨(by show (1000 : Nat) < 1002; decide), trivial, trivial⟩) (dol_in d) (rens_low ha) ?_ rfl rfl (fun i hi => ?_) (fun c hc => ?_)
  · show (Option.isSome none = true) ↔ 1000 ≤ i ∧ i < 1000
    simp
  · show V.tup [V.ptr (ρL [] h.nxt 1000) 0, _] = _
    rw [r0]; rfl
  · have hi : i < 2 := hi
    match i, hi with
    | 0, _ =>
      show (nd h d).ob (ρL [] h.nxt 1000) = some (Obj.ren _ _)
      rw [r0]
      simp only [Obj.ren, encD_ren, r1]
      show (if h.nxt = h.nxt + 1 then _ else if h.nxt = h.nxt then _ else _) = _
      rw [if_neg (by omega), if_pos rfl]
    | 1, _ =>
      show (nd h d).ob (ρL [] h.nxt 1001) = _
      rw [r1]
      show (if h.nxt + 1 = h.nxt + 1 then _ else _) = _
      rw [if_pos rfl]; rfl
  · have h0 : ρL [] h.nxt 1000 ≠ c := hc 0 (by show 0 < 2; decide)
    have h1 : ρL [] h.nxt 1001 ≠ c := hc 1 (by show 1 < 2; decide)
    rw [r0] at h0
    rw [r1] at h1
    show (if c = h.nxt + 1 then _ else if c = h.nxt then _ else _) = _
    rw [if_neg (fun e => h1 e.symm), if_neg (fun e => h0 e.symm)]

theorem d0_fit {n : Nat} (hn : n ≤ lim) : Fit d0 n := ⟨by simp [d0], by simp [d0], by simp [d0]; exact hn, by simp [d0]; exact hn⟩

theorem weakL {l : List Wr} {c : LC} : Weak [.lst (l.map encW) c] [.lst (l.map encW) .unk] := fun E l' r => by
  cases r with
  | cons _ v' _ l' r0 t => cases t; exact .cons _ _ _ _ r0.clean1 .nil

theorem replay_some (ws : List Wr) (c : LC) (hws : ws.length ≤ 999999) (hdl : dl ws ≤ lim) {d : Dk} (hs : replayF ws d0 = (some d, 0)) (h : H) : SCall Go.Proofs.Try.prog [] 28 [.lst (ws.map encW) c] none h (.ret (.tup [.ptr h.nxt 0, .int .i64 0])) none (nd h d) := by
  refine SCall.args (nd_lift ?_ (by exact ⟨⟨encWs_in ws, trivial⟩, trivial⟩)) weakL
  refine SCall.listed (fn := Go.Proofs.Try.f28) (by kernel_rfl) res28 (by kernel_rfl) (by kernel_rfl) ((by decide)) rfl (dol_in d) ⟨(by show (1000 : Nat) < 1002; decide), trivial, trivial⟩ ?_
  unfold rc28
  repeat (first | refine WR.seq ?_ | refine WR.block ?_ | refine WR.scope ?_ | refine WR.skip ?_ | refine WR.exit ?_ | refine WR.condT rfl ?_ | refine WR.condF rfl ?_ | refine WR.reg (WQ.runS [] 1000 _ _ _ _ rfl ?_) | refine WQ.nilS ?_ | refine WR.dreg hmix (DW.runS [] 1000 _ _ _ _ _ _ rfl ?_))
  refine WQ.callH rfl rfl rfl rfl rfl (new_call _) (.new (.new .base rfl) rfl) rfl (WQ.runS [] 1000 _ _ _ _ rfl ?_)
  repeat (first | refine WR.seq ?_ | refine WR.block ?_ | refine WR.scope ?_ | refine WR.skip ?_ | refine WR.exit ?_ | refine WR.condT rfl ?_ | refine WR.condF rfl ?_ | refine WR.reg (WQ.runS [] 1000 _ _ _ _ rfl ?_) | refine WQ.nilS ?_ | refine WR.dreg hmix (DW.runS [] 1000 _ _ _ _ _ _ rfl ?_))
  refine WR.loop (WLr.weak (s := SL.toS ⟨rpTm ws 0, [], none, 1002, dol d0, []⟩) ?_ (replay_loop ws hws ws.length 0 d0 (by omega) (by simp [d0]) (d0_fit hdl) (fun e s' q _ _ _ _ _ => ?_) (fun tm d' q h4 => ?_)))
  · refine SW.tellR ?_ ?_
    · repeat (first | exact .nil | refine .cons rfl (.v (VLe.refl _)) ?_ | refine .cons rfl (.l _ _ rfl) ?_ | refine .cons rfl (.v (VLe.unk _ _)) ?_)
    · repeat (first | exact .nil | refine .cons rfl (.inl rfl) ?_)
  · rw [List.drop_zero, hs] at q; cases q
  rw [List.drop_zero, hs] at q; cases q
  show WR Go.Proofs.Try.prog [] _ _ _ _ _
  refine WR.seq (WR.reg (WQ.lightS rfl rfl rfl (lightX_sound (ro := .mv (.t 4)) (v := .v (.ptr 1000 0)) h4) rfl (WQ.runS [] 1000 _ _ _ _ rfl ?_)))
  repeat (first | refine WR.seq ?_ | refine WR.block ?_ | refine WR.scope ?_ | refine WR.skip ?_ | refine WR.exit ?_ | refine WR.condT rfl ?_ | refine WR.condF rfl ?_ | refine WR.reg (WQ.runS [] 1000 _ _ _ _ rfl ?_) | refine WQ.nilS ?_ | refine WR.dreg hmix (DW.runS [] 1000 _ _ _ _ _ _ rfl ?_))
  refine WR.ret ⟨rfl, rfl, ⟨_, rfl, VLe.refl _⟩, fun b _ => rfl⟩

theorem replayR_some (ws : List Wr) (c : LC) (hws : ws.length ≤ 999999) (hdl : dl ws ≤ lim) {d : Dk} (hs : replayF ws d0 = (some d, 0)) (h : H) : SCall Go.Proofs.Try.prog [] 29 [.lst (ws.map encW) c] none h (.ret (.tup [.ptr h.nxt 0, .int .i64 0])) none (nd h d) := by
  refine SCall.args (nd_lift ?_ (by exact ⟨⟨encWs_in ws, trivial⟩, trivial⟩)) weakL
  refine SCall.listed (fn := Go.Proofs.Try.f29) (by kernel_rfl) res29 (by kernel_rfl) (by kernel_rfl) ((by decide)) rfl (dol_in d) ⟨(by show (1000 : Nat) < 1002; decide), trivial, trivial⟩ ?_
  unfold rc29
  repeat (first | refine WR.seq ?_ | refine WR.block ?_ | refine WR.scope ?_ | refine WR.skip ?_ | refine WR.exit ?_ | refine WR.condT rfl ?_ | refine WR.condF rfl ?_ | refine WR.reg (WQ.runS [] 1000 _ _ _ _ rfl ?_) | refine WQ.nilS ?_ | refine WR.dreg hmix (DW.runS [] 1000 _ _ _ _ _ _ rfl ?_))
  refine WQ.callH rfl rfl rfl rfl rfl (newR_call _) (.new (.new .base rfl) rfl) rfl (WQ.runS [] 1000 _ _ _ _ rfl ?_)
  repeat (first | refine WR.seq ?_ | refine WR.block ?_ | refine WR.scope ?_ | refine WR.skip ?_ | refine WR.exit ?_ | refine WR.condT rfl ?_ | refine WR.condF rfl ?_ | refine WR.reg (WQ.runS [] 1000 _ _ _ _ rfl ?_) | refine WQ.nilS ?_ | refine WR.dreg hmix (DW.runS [] 1000 _ _ _ _ _ _ rfl ?_))
  refine WR.loop (WLr.weak (s := SL.toS ⟨rrTm ws 0, [], none, 1002, dol d0, []⟩) ?_ (replayR_loop ws hws ws.length 0 d0 (by omega) (by simp [d0]) (d0_fit hdl) (fun e s' q _ _ _ _ _ => ?_) (fun tm d' q h4 => ?_)))
  · refine SW.tellR ?_ ?_
    · repeat (first | exact .nil | refine .cons rfl (.v (VLe.refl _)) ?_ | refine .cons rfl (.l _ _ rfl) ?_ | refine .cons rfl (.v (VLe.unk _ _)) ?_)
    · repeat (first | exact .nil | refine .cons rfl (.inl rfl) ?_)
  · rw [List.drop_zero, hs] at q; cases q
  rw [List.drop_zero, hs] at q; cases q
  show WR Go.Proofs.Try.prog [] _ _ _ _ _
  refine WR.seq (WR.reg (WQ.lightS rfl rfl rfl (lightX_sound (ro := .mv (.t 4)) (v := .v (.ptr 1000 0)) h4) rfl (WQ.runS [] 1000 _ _ _ _ rfl ?_)))
  repeat (first | refine WR.seq ?_ | refine WR.block ?_ | refine WR.scope ?_ | refine WR.skip ?_ | refine WR.exit ?_ | refine WR.condT rfl ?_ | refine WR.condF rfl ?_ | refine WR.reg (WQ.runS [] 1000 _ _ _ _ rfl ?_) | refine WQ.nilS ?_ | refine WR.dreg hmix (DW.runS [] 1000 _ _ _ _ _ _ rfl ?_))
  refine WR.ret ⟨rfl, rfl, ⟨_, rfl, VLe.refl _⟩, fun b _ => rfl⟩

theorem og_dol_low (d : Dk) {b : Nat} (h : b < 1000) : og (dol d) b = none := by
  simp only [dol, og_cons]
  rw [if_neg (by omega), if_neg (by omega)]; rfl

theorem replay_none (ws : List Wr) (c : LC) (hws : ws.length ≤ 999999) (hdl : dl ws ≤ lim) {e : Int} (hs : replayF ws d0 = (none, e)) (h : H) : SCall Go.Proofs.Try.prog [] 28 [.lst (ws.map encW) c] none h (.ret (.tup [.nilp, .int .i64 e])) none h := by
  refine SCall.args (SCall.pure0 rfl ?_ (by exact ⟨⟨encWs_in ws, trivial⟩, trivial⟩) (by exact ⟨trivial, trivial, trivial⟩) h) weakL
  refine SCall.listed (fn := Go.Proofs.Try.f28) (by kernel_rfl) res28 (by kernel_rfl) (by kernel_rfl) ((by decide)) rfl (trivial) ⟨trivial, trivial, trivial⟩ ?_
  unfold rc28
  repeat (first | refine WR.seq ?_ | refine WR.block ?_ | refine WR.scope ?_ | refine WR.skip ?_ | refine WR.exit ?_ | refine WR.condT rfl ?_ | refine WR.condF rfl ?_ | refine WR.reg (WQ.runS [] 1000 _ _ _ _ rfl ?_) | refine WQ.nilS ?_ | refine WR.dreg hmix (DW.runS [] 1000 _ _ _ _ _ _ rfl ?_))
  refine WQ.callH rfl rfl rfl rfl rfl (new_call _) (.new (.new .base rfl) rfl) rfl (WQ.runS [] 1000 _ _ _ _ rfl ?_)
  repeat (first | refine WR.seq ?_ | refine WR.block ?_ | refine WR.scope ?_ | refine WR.skip ?_ | refine WR.exit ?_ | refine WR.condT rfl ?_ | refine WR.condF rfl ?_ | refine WR.reg (WQ.runS [] 1000 _ _ _ _ rfl ?_) | refine WQ.nilS ?_ | refine WR.dreg hmix (DW.runS [] 1000 _ _ _ _ _ _ rfl ?_))
  refine WR.loop (WLr.weak (s := SL.toS ⟨rpTm ws 0, [], none, 1002, dol d0, []⟩) ?_ (replay_loop ws hws ws.length 0 d0 (by omega) (by simp [d0]) (d0_fit hdl) (fun e s' q g1 g2 g3 g4 g5 => ?_) (fun tm d' q h4 => ?_)))
  · refine SW.tellR ?_ ?_
    · repeat (first | exact .nil | refine .cons rfl (.v (VLe.refl _)) ?_ | refine .cons rfl (.l _ _ rfl) ?_ | refine .cons rfl (.v (VLe.unk _ _)) ?_)
    · repeat (first | exact .nil | refine .cons rfl (.inl rfl) ?_)
  · rw [List.drop_zero, hs] at q; cases q
    refine ⟨g1, g2, ⟨[.nilp, .int .i64 e], ?_, VLe.refl _⟩, fun b hb => ?_⟩
    · show resV Go.Proofs.Try.prog _ _ [.tmp 2, .tmp 3] = _
      simp only [resV, g3, g4]
    · obtain ⟨d', g5⟩ := g5
      rw [g5, og_dol_low d' hb]; rfl
  · rw [List.drop_zero, hs] at q; cases q

theorem replayR_none (ws : List Wr) (c : LC) (hws : ws.length ≤ 999999) (hdl : dl ws ≤ lim) {e : Int} (hs : replayF ws d0 = (none, e)) (h : H) : SCall Go.Proofs.Try.prog [] 29 [.lst (ws.map encW) c] none h (.ret (.tup [.nilp, .int .i64 e])) none h := by
  refine SCall.args (SCall.pure0 rfl ?_ (by exact ⟨⟨encWs_in ws, trivial⟩, trivial⟩) (by exact ⟨trivial, trivial, trivial⟩) h) weakL
  refine SCall.listed (fn := Go.Proofs.Try.f29) (by kernel_rfl) res29 (by kernel_rfl) (by kernel_rfl) ((by decide)) rfl (trivial) ⟨trivial, trivial, trivial⟩ ?_
  unfold rc29
  repeat (first | refine WR.seq ?_ | refine WR.block ?_ | refine WR.scope ?_ | refine WR.skip ?_ | refine WR.exit ?_ | refine WR.condT rfl ?_ | refine WR.condF rfl ?_ | refine WR.reg (WQ.runS [] 1000 _ _ _ _ rfl ?_) | refine WQ.nilS ?_ | refine WR.dreg hmix (DW.runS [] 1000 _ _ _ _ _ _ rfl ?_))
  refine WQ.callH rfl rfl rfl rfl rfl (newR_call _) (.new (.new .base rfl) rfl) rfl (WQ.runS [] 1000 _ _ _ _ rfl ?_)
  repeat (first | refine WR.seq ?_ | refine WR.block ?_ | refine WR.scope ?_ | refine WR.skip ?_ | refine WR.exit ?_ | refine WR.condT rfl ?_ | refine WR.condF rfl ?_ | refine WR.reg (WQ.runS [] 1000 _ _ _ _ rfl ?_) | refine WQ.nilS ?_ | refine WR.dreg hmix (DW.runS [] 1000 _ _ _ _ _ _ rfl ?_))
  refine WR.loop (WLr.weak (s := SL.toS ⟨rrTm ws 0, [], none, 1002, dol d0, []⟩) ?_ (replayR_loop ws hws ws.length 0 d0 (by omega) (by simp [d0]) (d0_fit hdl) (fun e s' q g1 g2 g3 g4 g5 => ?_) (fun tm d' q h4 => ?_)))
  · refine SW.tellR ?_ ?_
    · repeat (first | exact .nil | refine .cons rfl (.v (VLe.refl _)) ?_ | refine .cons rfl (.l _ _ rfl) ?_ | refine .cons rfl (.v (VLe.unk _ _)) ?_)
    · repeat (first | exact .nil | refine .cons rfl (.inl rfl) ?_)
  · rw [List.drop_zero, hs] at q; cases q
    refine ⟨g1, g2, ⟨[.nilp, .int .i64 e], ?_, VLe.refl _⟩, fun b hb => ?_⟩
    · show resV Go.Proofs.Try.prog _ _ [.tmp 2, .tmp 3] = _
      simp only [resV, g3, g4]
    · obtain ⟨d', g5⟩ := g5
      rw [g5, og_dol_low d' hb]; rfl
  · rw [List.drop_zero, hs] at q; cases q

/-! ### the calls at the head -/
def dA : Dk := ⟨[97, 98], [], 0, false, -1, [⟨1, 0, [97, 98]⟩]⟩
def dB : Dk := ⟨[97, 98], [], 0, false, 1, [⟨1, 0, [97, 98]⟩]⟩
def dC : Dk := ⟨[97, 98], [], 1, false, 0, [⟨1, 0, [97, 98]⟩, ⟨3, 1, []⟩]⟩
def dD : Dk := ⟨[97, 98], [], 1, true, 0, [⟨1, 0, [97, 98]⟩, ⟨3, 1, []⟩]⟩
def dE : Dk := ⟨[97, 98], [], 1, false, -1, [⟨1, 0, [97, 98]⟩, ⟨3, 1, []⟩]⟩

theorem awake_spec (h : H) : SCall Go.Proofs.Try.prog [] 9 [] none h (.ret (.bool true)) none h := by
  refine SCall.pure0 rfl ?_ (by exact trivial) (by exact trivial) h
  refine SCall.listed (fn := Go.Proofs.Try.f9) (by kernel_rfl) res9 (by kernel_rfl) (by kernel_rfl) ((by decide)) rfl (trivial) trivial ?_
  unfold rc9
  repeat (first | refine WR.seq ?_ | refine WR.block ?_ | refine WR.scope ?_ | refine WR.skip ?_ | refine WR.exit ?_ | refine WR.condT rfl ?_ | refine WR.condF rfl ?_ | refine WR.reg (WQ.runS [] 1000 _ _ _ _ rfl ?_) | refine WQ.nilS ?_ | refine WR.dreg hmix (DW.runS [] 1000 _ _ _ _ _ _ rfl ?_))
  refine WQ.callH rfl rfl rfl rfl rfl (new_call _) (.new (.new .base rfl) rfl) rfl (WQ.runS [] 1000 _ _ _ _ rfl ?_)
  repeat (first | refine WR.seq ?_ | refine WR.block ?_ | refine WR.scope ?_ | refine WR.skip ?_ | refine WR.exit ?_ | refine WR.condT rfl ?_ | refine WR.condF rfl ?_ | refine WR.reg (WQ.runS [] 1000 _ _ _ _ rfl ?_) | refine WQ.nilS ?_ | refine WR.dreg hmix (DW.runS [] 1000 _ _ _ _ _ _ rfl ?_))
  refine WQ.callH (v := .int .i64 0) rfl rfl rfl rfl rfl (disk_lift (d' := dA) (append_core d0 0 [97, 98] (d0_fit (by decide))) (by exact ⟨trivial, trivial, trivial⟩) trivial (hd_core d0)) (.put (.put .base rfl) rfl) rfl (WQ.runS [] 1000 _ _ _ _ rfl ?_)
  repeat (first | refine WR.seq ?_ | refine WR.block ?_ | refine WR.scope ?_ | refine WR.skip ?_ | refine WR.exit ?_ | refine WR.condT rfl ?_ | refine WR.condF rfl ?_ | refine WR.reg (WQ.runS [] 1000 _ _ _ _ rfl ?_) | refine WQ.nilS ?_ | refine WR.dreg hmix (DW.runS [] 1000 _ _ _ _ _ _ rfl ?_))
  refine WQ.callH (v := .int .i64 0) rfl rfl rfl rfl rfl (disk_lift (d' := dB) (fuse_core dA 1) (by exact ⟨trivial, trivial⟩) trivial (hd_core dA)) (.put (.put .base rfl) rfl) rfl (WQ.runS [] 1000 _ _ _ _ rfl ?_)
  repeat (first | refine WR.seq ?_ | refine WR.block ?_ | refine WR.scope ?_ | refine WR.skip ?_ | refine WR.exit ?_ | refine WR.condT rfl ?_ | refine WR.condF rfl ?_ | refine WR.reg (WQ.runS [] 1000 _ _ _ _ rfl ?_) | refine WQ.nilS ?_ | refine WR.dreg hmix (DW.runS [] 1000 _ _ _ _ _ _ rfl ?_))
  refine WQ.callH (v := .int .i64 0) rfl rfl rfl rfl rfl (disk_lift (d' := dC) (root_core dB 1 ⟨by decide, by decide, by decide, by decide⟩) (by exact ⟨trivial, trivial⟩) trivial (hd_core dB)) (.put (.put .base rfl) rfl) rfl (WQ.runS [] 1000 _ _ _ _ rfl ?_)
  repeat (first | refine WR.seq ?_ | refine WR.block ?_ | refine WR.scope ?_ | refine WR.skip ?_ | refine WR.exit ?_ | refine WR.condT rfl ?_ | refine WR.condF rfl ?_ | refine WR.reg (WQ.runS [] 1000 _ _ _ _ rfl ?_) | refine WQ.nilS ?_ | refine WR.dreg hmix (DW.runS [] 1000 _ _ _ _ _ _ rfl ?_))
  refine WQ.callH (v := .int .i64 180) rfl rfl rfl rfl rfl (disk_lift (d' := dD) (clear_core dC 0 ⟨by decide, by decide, by decide, by decide⟩) (by exact ⟨trivial, trivial⟩) trivial (hd_core dC)) (.put (.put .base rfl) rfl) rfl (WQ.runS [] 1000 _ _ _ _ rfl ?_)
  repeat (first | refine WR.seq ?_ | refine WR.block ?_ | refine WR.scope ?_ | refine WR.skip ?_ | refine WR.exit ?_ | refine WR.condT rfl ?_ | refine WR.condF rfl ?_ | refine WR.reg (WQ.runS [] 1000 _ _ _ _ rfl ?_) | refine WQ.nilS ?_ | refine WR.dreg hmix (DW.runS [] 1000 _ _ _ _ _ _ rfl ?_))
  refine WQ.callH (v := .tup [.int .i64 0, .int .i64 180]) rfl rfl rfl rfl rfl (disk_read (now_core dD) trivial ⟨trivial, trivial, trivial⟩ (hd_core dD)) .base rfl (WQ.runS [] 1000 _ _ _ _ rfl ?_)
  repeat (first | refine WR.seq ?_ | refine WR.block ?_ | refine WR.scope ?_ | refine WR.skip ?_ | refine WR.exit ?_ | refine WR.condT rfl ?_ | refine WR.condF rfl ?_ | refine WR.reg (WQ.runS [] 1000 _ _ _ _ rfl ?_) | refine WQ.nilS ?_ | refine WR.dreg hmix (DW.runS [] 1000 _ _ _ _ _ _ rfl ?_))
  refine WQ.callH (v := .int .i64 0) rfl rfl rfl rfl rfl (disk_lift (d' := dE) (power_core dD) trivial trivial (hd_core dD)) (.put (.put .base rfl) rfl) rfl (WQ.runS [] 1000 _ _ _ _ rfl ?_)
  repeat (first | refine WR.seq ?_ | refine WR.block ?_ | refine WR.scope ?_ | refine WR.skip ?_ | refine WR.exit ?_ | refine WR.condT rfl ?_ | refine WR.condF rfl ?_ | refine WR.reg (WQ.runS [] 1000 _ _ _ _ rfl ?_) | refine WQ.nilS ?_ | refine WR.dreg hmix (DW.runS [] 1000 _ _ _ _ _ _ rfl ?_))
  refine WQ.callH (v := .tup [.int .i64 1, .int .i64 0]) rfl rfl rfl rfl rfl (disk_read (now_core dE) trivial ⟨trivial, trivial, trivial⟩ (hd_core dE)) .base rfl (WQ.runS [] 1000 _ _ _ _ rfl ?_)
  repeat (first | refine WR.seq ?_ | refine WR.block ?_ | refine WR.scope ?_ | refine WR.skip ?_ | refine WR.exit ?_ | refine WR.condT rfl ?_ | refine WR.condF rfl ?_ | refine WR.reg (WQ.runS [] 1000 _ _ _ _ rfl ?_) | refine WQ.nilS ?_ | refine WR.dreg hmix (DW.runS [] 1000 _ _ _ _ _ _ rfl ?_))
  refine WQ.callH (v := .tup [.str [97, 98], .int .i64 0]) rfl rfl rfl rfl rfl (disk_read (area_core dE 0) ⟨trivial, trivial⟩ ⟨trivial, trivial, trivial⟩ (hd_core dE)) .base rfl (WQ.runS [] 1000 _ _ _ _ rfl ?_)
  repeat (first | refine WR.seq ?_ | refine WR.block ?_ | refine WR.scope ?_ | refine WR.skip ?_ | refine WR.exit ?_ | refine WR.condT rfl ?_ | refine WR.condF rfl ?_ | refine WR.reg (WQ.runS [] 1000 _ _ _ _ rfl ?_) | refine WQ.nilS ?_ | refine WR.dreg hmix (DW.runS [] 1000 _ _ _ _ _ _ rfl ?_))
  refine WQ.callH rfl rfl rfl rfl rfl (disk_read (writes_core dE (by decide)) trivial (by exact ⟨encWs_in _, trivial⟩) (hd_core dE)) .base rfl (WQ.runS [] 1000 _ _ _ _ rfl ?_)
  repeat (first | refine WR.seq ?_ | refine WR.block ?_ | refine WR.scope ?_ | refine WR.skip ?_ | refine WR.exit ?_ | refine WR.condT rfl ?_ | refine WR.condF rfl ?_ | refine WR.reg (WQ.runS [] 1000 _ _ _ _ rfl ?_) | refine WQ.nilS ?_ | refine WR.dreg hmix (DW.runS [] 1000 _ _ _ _ _ _ rfl ?_))
  refine WQ.callH (v := .int .i64 181) rfl rfl rfl rfl rfl (disk_lift (d' := dE) (append_core dE 2 [] ⟨by decide, by decide, by decide, by decide⟩) (by exact ⟨trivial, trivial, trivial⟩) trivial (hd_core dE)) (.put (.put .base rfl) rfl) rfl (WQ.runS [] 1000 _ _ _ _ rfl ?_)
  repeat (first | refine WR.seq ?_ | refine WR.block ?_ | refine WR.scope ?_ | refine WR.skip ?_ | refine WR.exit ?_ | refine WR.condT rfl ?_ | refine WR.condF rfl ?_ | refine WR.reg (WQ.runS [] 1000 _ _ _ _ rfl ?_) | refine WQ.nilS ?_ | refine WR.dreg hmix (DW.runS [] 1000 _ _ _ _ _ _ rfl ?_))
  refine WR.ret ⟨rfl, rfl, ⟨_, rfl, VLe.refl _⟩, fun b hb => ?_⟩
  exact (og_dol_low dE hb).symm
end Go.VM
