/- laid for this seat: VsSig8 -/
import Derived.Test.YthacfmmgcbjagaaGreatDoorVsSig7
/- The law SigTypes, over its own memory. -/
set_option maxRecDepth 100000
set_option linter.unusedVariables false
set_option linter.unusedSimpArgs false
namespace Go.VM
open Go.RowKit
def lTm (i : Nat) : TM := [(1, .l 1 0), (3, .v (.int .i64 i))]
theorem lists_loop {QN : S → Prop} {QX : X → S → Prop} : ∀ (m i : Nat) (x : TX), i + m = 300 → (∀ tm y, tg tm 3 = some (.v (.int .i64 (min 300 (i + depT x) : Nat))) → QX (.exit 0) (SL.toS ⟨tm, [], none, 1000, [], [(1, encT y)]⟩)) →
  WLr Go.Proofs.Tryz.prog [] ⟨Go.Proofs.Tryz.f9.ntmps, none, 9⟩ rc9_L1 (SL.toS ⟨lTm i, [], none, 1000, [], [(1, encT x)]⟩) QN QX := by
 intro m
 induction m with
 | zero =>
  intro i x hi hx
  obtain ⟨k, a, p, n, l⟩ := x
  unfold rc9_L1
  refine WLr.of ?_
  refine WR.seq (WR.seq (WR.reg (WQ.runS [] 5 _ _ _ _ rfl ?_)))
  refine WQ.guard 8 rfl (fun hb => ?_) (fun hb => ?_) <;> rw [hb]
  ·refine WQ.runS [] 1000 _ _ _ _ rfl (WQ.nilS ?_)
   refine WR.cond rfl (fun h2 => ?_) (fun h2 => ?_)
   ·have h2 := of_decide_eq_true h2
    omega
   ·repeat (first | refine WR.seq ?_ | refine WR.block ?_ | refine WR.scope ?_ | refine WR.skip ?_ | refine WR.exit ?_ | refine WR.condT rfl ?_ | refine WR.condF rfl ?_ | refine WR.reg (WQ.runS [] 1000 _ _ _ _ rfl ?_) | refine WQ.nilS ?_ | refine WR.dreg hmix (DW.runS [] 1000 _ _ _ _ _ _ rfl ?_))
    refine hx _ (.mk k a p n l) ?_
    have : min 300 (i + depT (.mk k a p n l)) = i := by omega
    rw [this]; rfl
  ·refine WQ.runS [] 1000 _ _ _ _ rfl (WQ.nilS ?_)
   repeat (first | refine WR.seq ?_ | refine WR.block ?_ | refine WR.scope ?_ | refine WR.skip ?_ | refine WR.exit ?_ | refine WR.condT rfl ?_ | refine WR.condF rfl ?_ | refine WR.reg (WQ.runS [] 1000 _ _ _ _ rfl ?_) | refine WQ.nilS ?_ | refine WR.dreg hmix (DW.runS [] 1000 _ _ _ _ _ _ rfl ?_))
   refine hx _ (.mk k a p n l) ?_
   have : min 300 (i + depT (.mk k a p n l)) = i := by omega
   rw [this]; rfl
 | succ m ih =>
  intro i x hi hx
  obtain ⟨k, a, p, n, l⟩ := x
  unfold rc9_L1
  refine WLr.of ?_
  refine WR.seq (WR.seq (WR.reg (WQ.runS [] 5 _ _ _ _ rfl ?_)))
  cases l with
  | nil =>
   refine WQ.runS [] 1000 _ _ _ _ rfl (WQ.nilS ?_)
   repeat (first | refine WR.seq ?_ | refine WR.block ?_ | refine WR.scope ?_ | refine WR.skip ?_ | refine WR.exit ?_ | refine WR.condT rfl ?_ | refine WR.condF rfl ?_ | refine WR.reg (WQ.runS [] 1000 _ _ _ _ rfl ?_) | refine WQ.nilS ?_ | refine WR.dreg hmix (DW.runS [] 1000 _ _ _ _ _ _ rfl ?_))
   refine hx _ (.mk k a p n []) ?_
   have : min 300 (i + depT (.mk k a p n [])) = i := by simp only [depT]; omega
   rw [this]; rfl
  | cons y r =>
   rw [show decide (((encTs (y :: r)).length : Int) > 0) = true from decide_eq_true (by rw [encTs_len]; simp; try omega)]
   refine WQ.runS [] 2 _ _ _ _ rfl ?_
   rw [show decide ((i : Int) < 300) = true from decide_eq_true (by omega)]
   refine WQ.runS [] 1000 _ _ _ _ rfl (WQ.nilS ?_)
   obtain ⟨k2, a2, p2, n2, l2⟩ := y
   repeat (first | refine WR.seq ?_ | refine WR.block ?_ | refine WR.scope ?_ | refine WR.skip ?_ | refine WR.exit ?_ | refine WR.condT rfl ?_ | refine WR.condF rfl ?_ | refine WR.reg (WQ.runS [] 1000 _ _ _ _ rfl ?_) | refine WQ.nilS ?_ | refine WR.dreg hmix (DW.runS [] 1000 _ _ _ _ _ _ rfl ?_))
   rw [show IntKind.i64.wrap ((i : Int) + 1) = ((i + 1 : Nat) : Int) by rw [wrap64 (by omega) (by omega)]; rfl]
   refine WIr.again (WLr.weak (s := SL.toS ⟨lTm (i + 1), [], none, 1000, [], [(1, encT (.mk k2 a2 p2 n2 l2))]⟩) ?_ ?_)
   ·refine SW.tellR ?_ ?_
    ·repeat (first | exact .nil | refine .cons rfl (.v (VLe.refl _)) ?_ | refine .cons rfl (.l _ _ rfl) ?_ | refine .cons rfl (.v (VLe.unk _ _)) ?_)
    ·repeat (first | exact .nil | refine .cons rfl (.inl rfl) ?_)
   refine ih (i + 1) _ (by omega) (fun tm z h3 => hx tm z ?_)
   have : min 300 (i + 1 + depT (.mk k2 a2 p2 n2 l2)) = min 300 (i + depT (.mk k a p n (.mk k2 a2 p2 n2 l2 :: r))) := by
    have : depT (.mk k a p n (.mk k2 a2 p2 n2 l2 :: r)) = depT (.mk k2 a2 p2 n2 l2) + 1 := by rw [depT_mk]
    omega
   rw [← this]; exact h3
theorem lists_spec (x : TX) (h : H) : SCall Go.Proofs.Tryz.prog [] 9 [.agg (encT x)] none h (.ret (.int .i64 (min 300 (depT x) : Nat))) none h := by
 refine SCall.pure0 rfl ?_ (by exact ⟨encT_in _, trivial⟩) (by exact trivial) h
 obtain ⟨k, a, p, n, l⟩ := x
 refine SCall.listed (fn := Go.Proofs.Tryz.f9) (by kernel_rfl) res9 (by kernel_rfl) (by kernel_rfl) (Nat.le_refl _) rfl trivial trivial ?_
 unfold rc9
 repeat (first | refine WR.seq ?_ | refine WR.block ?_ | refine WR.scope ?_ | refine WR.skip ?_ | refine WR.exit ?_ | refine WR.condT rfl ?_ | refine WR.condF rfl ?_ | refine WR.reg (WQ.runS [] 1000 _ _ _ _ rfl ?_) | refine WQ.nilS ?_ | refine WR.dreg hmix (DW.runS [] 1000 _ _ _ _ _ _ rfl ?_))
 refine WR.loop (WLr.weak (s := SL.toS ⟨lTm 0, [], none, 1000, [], [(1, encT (.mk k a p n l))]⟩) ?_ (lists_loop 300 0 (.mk k a p n l) (by omega) (fun tm y h3 => ?_)))
 ·refine SW.tellR ?_ ?_
  ·repeat (first | exact .nil | refine .cons rfl (.v (VLe.refl _)) ?_ | refine .cons rfl (.l _ _ rfl) ?_ | refine .cons rfl (.v (VLe.unk _ _)) ?_)
  ·repeat (first | exact .nil | refine .cons rfl (.inl rfl) ?_)
 show WR Go.Proofs.Tryz.prog [] _ _ _ _ _
 unfold rc9_J1
 rw [Nat.zero_add] at h3
 refine WR.seq (WR.reg (WQ.lightS rfl rfl rfl (lightX_sound (ro := .mv (.t 3)) (v := .v _) h3) rfl (WQ.runS [] 1000 _ _ _ _ rfl (WQ.nilS ?_))))
 refine WR.ret ⟨rfl, rfl, ⟨_, rfl, VLe.refl _⟩, fun b _ => rfl⟩
theorem ret4 {tm : TM} {ol : OL} {nx : Nat} {lc : LM} {ol' : OL} (h : tg tm 4 = some (.v (.bool true))) (hol : ∀ b, b < 1000 → og ol' b = og ol b) : retX (RetS Go.Proofs.Tryz.prog Go.Proofs.Tryz.f4 (.bool true) 1000 ol') .ret (SL.toS ⟨tm, [], none, nx, ol, lc⟩) := by
 refine ⟨rfl, rfl, ⟨[.bool true], ?_, VLe.refl _⟩, fun b hb => hol b hb⟩
 show resV Go.Proofs.Tryz.prog _ _ [.tmp 4] = _
 simp only [resV, SL.toS, h]
theorem sigTypes_spec (s : SCx) (ok : okSc s) (x : TX) {k : IntKind} {zs : List Int} (haw : ∀ (nx : Nat) (lc : LM), SCall Go.Proofs.Tryz.prog [0] 5 [] none ⟨nx, og [(0, .cells false (tabO k zs))], lc⟩ (.ret (.bool true)) none ⟨nx, og [(0, .cells false (tabO k zs))], lc⟩) :
  SCall Go.Proofs.Tryz.prog [0] 4 [.agg (encSc s), .agg (encT x)] none (hT 0 k zs) (.ret (.bool true)) none (hT 0 k zs) := by
 refine SCall.listed (fn := Go.Proofs.Tryz.f4) (by kernel_rfl) res4 (by kernel_rfl) (by kernel_rfl) (Nat.le_refl _) rfl (by exact ⟨tabO_in, trivial⟩) trivial ?_
 have hls := lists_spec x
 have hty := type_spec s ok (depT x) x (Nat.le_refl _)
 have hty2 := typeR_spec s ok (depT x) x (Nat.le_refl _)
 have henc : ∃ k a p n l, x = .mk k a p n l := by cases x; exact ⟨_, _, _, _, _, rfl⟩
 generalize typeF s x = T at hty hty2
 have heq := equal_spec T.t
 generalize depT x = d at hls
 obtain ⟨k0, a0, p0, n0, l0, rfl⟩ := henc
 unfold rc4
 refine WR.seq (WR.reg (WQ.runS [] 1000 _ _ _ _ rfl (WQ.nilS ?_)))
 refine WR.seq (WR.reg (WQ.callH rfl rfl rfl rfl rfl (haw _ _) .base rfl (WQ.runS [] 1000 _ _ _ _ rfl (WQ.nilS ?_))))
 refine WR.seq (WR.seq (WR.reg (WQ.runS [] 1 _ _ _ _ rfl ?_)))
 refine WQ.callH rfl rfl rfl rfl rfl (hls _).more .base rfl (WQ.runS [] 1000 _ _ _ _ rfl (WQ.nilS ?_))
 refine WR.cond rfl (fun c => ?_) (fun c => ?_)
 ·repeat (first | refine WR.seq ?_ | refine WR.block ?_ | refine WR.scope ?_ | refine WR.skip ?_ | refine WR.exit ?_ | refine WR.condT rfl ?_ | refine WR.condF rfl ?_ | refine WR.reg (WQ.runS [] 1000 _ _ _ _ rfl ?_) | refine WQ.nilS ?_ | refine WR.dreg hmix (DW.runS [] 1000 _ _ _ _ _ _ rfl ?_))
  exact WR.ret (ret4 rfl fun _ _ => rfl)
 refine WR.skip ?_
 refine WR.seq (WR.reg (WQ.runS [] 2 _ _ _ _ rfl ?_))
 refine WQ.callH rfl rfl rfl rfl rfl (hty _).more .base rfl (WQ.runS [] 1000 _ _ _ _ rfl (WQ.nilS ?_))
 refine WR.seq (WR.reg (WQ.runS [] 2 _ _ _ _ rfl ?_))
 refine WQ.callH rfl rfl rfl rfl rfl (hty2 _).more .base rfl (WQ.runS [] 1000 _ _ _ _ rfl (WQ.nilS ?_))
 refine WR.seq (WR.reg (WQ.runS [] 2 _ _ _ _ rfl ?_))
 refine WQ.callH rfl rfl rfl rfl rfl (heq _).more .base rfl (WQ.runS [] 1000 _ _ _ _ rfl (WQ.nilS ?_))
 refine WR.seq (WR.reg (WQ.runS [] 8 _ _ _ _ rfl ?_))
 rw [show (decide (T.at_ = T.at_) && (decide (T.code = T.code) && true)) = true from by simp]
 refine WQ.runS [] 1000 _ _ _ _ rfl (WQ.nilS ?_)
 exact WR.ret (ret4 rfl fun _ _ => rfl)
end Go.VM
