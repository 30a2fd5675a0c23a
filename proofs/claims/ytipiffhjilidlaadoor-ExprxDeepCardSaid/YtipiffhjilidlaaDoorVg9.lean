/- laid for this seat: VyH VyJ -/
import Derived.Test.YtipiffhjilidlaaDoorVyHb
import Derived.Test.YtipiffhjilidlaaDoorVg8
section
/- Expressions of a text: brackets that are deep: plain, all. -/
set_option maxRecDepth 100000
set_option linter.unusedVariables false
set_option linter.unusedSimpArgs false
namespace Go.VM
open Go.RowKit
theorem deep_at {k a n : Nat} (h : allB (fun i => deepC k (a + i)) 10 = true) (h1 : a ≤ n) (h2 : n < a + 10) : deepC k n = true := by
 have e : a + (n - a) = n := by omega
 have q : deepC k (a + (n - a)) = true := allB_at (f := fun i => deepC k (a + i)) h (by omega)
 rw [e] at q
 exact q
theorem deep_all {k n : Nat} (hk : k < 3) (hn : n < 70) : deepC k n = true := by
 have c : n < 10 ∨ (10 ≤ n ∧ n < 20) ∨ (20 ≤ n ∧ n < 30) ∨ (30 ≤ n ∧ n < 40) ∨ (40 ≤ n ∧ n < 50) ∨ (50 ≤ n ∧ n < 60) ∨ 60 ≤ n := by omega
 have k3 : k = 0 ∨ k = 1 ∨ k = 2 := by omega
 rcases k3 with rfl | rfl | rfl
 ·exact allB_at (f := deepC 0) deep0 hn
 ·rcases c with c | c | c | c | c | c | c
  ·exact deep_at (a := 0) deep1_0 (by omega) (by omega)
  ·exact deep_at (a := 10) deep1_1 (by omega) (by omega)
  ·exact deep_at (a := 20) deep1_2 (by omega) (by omega)
  ·exact deep_at (a := 30) deep1_3 (by omega) (by omega)
  ·exact deep_at (a := 40) deep1_4 (by omega) (by omega)
  ·exact deep_at (a := 50) deep1_5 (by omega) (by omega)
  ·exact deep_at (a := 60) deep1_6 (by omega) (by omega)
 ·rcases c with c | c | c | c | c | c | c
  ·exact deep_at (a := 0) deep2_0 (by omega) (by omega)
  ·exact deep_at (a := 10) deep2_1 (by omega) (by omega)
  ·exact deep_at (a := 20) deep2_2 (by omega) (by omega)
  ·exact deep_at (a := 30) deep2_3 (by omega) (by omega)
  ·exact deep_at (a := 40) deep2_4 (by omega) (by omega)
  ·exact deep_at (a := 50) deep2_5 (by omega) (by omega)
  ·exact deep_at (a := 60) deep2_6 (by omega) (by omega)
end Go.VM
end
section
/- Expressions of a text: brackets that are deep: the law, walked. -/
set_option maxRecDepth 100000
set_option linter.unusedVariables false
set_option linter.unusedSimpArgs false
namespace Go.VM
open Go.RowKit
theorem deepS_eq {k : Nat} (hk : k < 3) : ∀ n, deepS k n = deepT k n
 | 0 => rfl
 | n + 1 => by
  have ih := deepS_eq hk n
  match k, hk with
  | 0, _ => simp only [deepS, deepT, ih]; rfl
  | 1, _ => simp only [deepS, deepT, ih]; rfl
  | 2, _ => simp only [deepS, deepT, ih]; rfl
theorem deepT_b (k : Nat) : ∀ n, ∀ c ∈ deepT k n, c < 256
 | 0, c, h => by simp only [deepT, List.mem_singleton] at h; omega
 | n + 1, c, h => by
  have ih := deepT_b k n
  have h1 : ∀ c ∈ opS k, c < 256 := by unfold opS; split <;> decide
  have h2 : ∀ c ∈ shS k, c < 256 := by unfold shS; split <;> decide
  simp only [deepT] at h
  split at h
  ·simp only [List.mem_append] at h
   rcases h with ((h | h) | h) | h
   ·simp only [List.mem_singleton] at h; omega
   ·exact h1 c h
   ·exact ih c h
   ·exact h2 c h
  ·simp only [List.mem_append] at h
   rcases h with (h | h) | h
   ·exact h1 c h
   ·exact ih c h
   ·exact h2 c h
theorem deep_tail (k m : Nat) (hk : k < 3) (hm : m < 70) {tm : TM} (ht : TellT tm [] [(0, .v (.int .i64 m)), (5, .v (.bool true)), (8, .v (.str (deepT k m)))]) :
  WR Go.Proofs.Tryd.prog [0] ⟨Go.Proofs.Tryd.f6.ntmps, none, 6⟩ rc6_J2 (SL.toS ⟨tm, [], none, 1000, tOl, []⟩) (RetS Go.Proofs.Tryd.prog Go.Proofs.Tryd.f6 (.bool true) 1000 tOl) (retX (RetS Go.Proofs.Tryd.prog Go.Proofs.Tryd.f6 (.bool true) 1000 tOl)) := by
 refine WR.weak (SW.tellR ht .nil) ?_
 have hdc := deep_all hk hm
 have hlen := deepT_len k m
 have al := all_at (deepT k m) (deepT_b k m) (by unfold big; omega)
 unfold deepC at hdc
 rw [deepS_eq hk] at hdc
 unfold allV at al
 have goodR : (lexR (deepT k m)).2.2 = 0 → GoodT (deepT k m).length ((lexR (deepT k m)).1.map toZ) ∧ (lexR (deepT k m)).1.length ≤ 4001 := by
  intro h0
  have e : lexR (deepT k m) = ((lexR (deepT k m)).1, (lexR (deepT k m)).2.1, 0) := by rw [← h0]
  exact ⟨lexR_good e, lexL_len _ _ _ [] _ _ (by simp) e⟩
 have hdc2 : (match (lexR (deepT k m)).2.2 with | 0 => (match (fns ((lexR (deepT k m)).1.map toZ) 400).expr 1 0 0 with | .ok _ j => Nat.ble m 30 && Nat.beq (j + 1) (lexR (deepT k m)).1.length | .er _ _ _ c => Nat.blt 30 m && decide (c = 6) | .out => false) | _ => false) = true := by
  revert hdc
  obtain ⟨T, w1, w2⟩ := lexR (deepT k m)
  cases w2 with
  | zero => exact fun h => h
  | succ w => exact fun h => h
 clear hdc
 have hs : (deepT k m).length < big := by unfold big; omega
 generalize deepT k m = s at al goodR hdc2 hs ⊢
 generalize (lexR s).1 = T at al goodR hdc2
 generalize (lexR s).2.1 = w1 at al
 generalize (lexR s).2.2 = w2 at al goodR hdc2
 cases w2 with
 | succ w => cases hdc2
 | zero =>
 obtain ⟨g, hT⟩ := goodR rfl
 have e1 : (V.lst (List.map encTk T) .unk) = lsV (T.map toZ) := by unfold lsV; rw [encTks_Z]
 have hTl : (T.map toZ).length = T.length := List.length_map ..
 have hdc2 : (match (fns (T.map toZ) 400).expr 1 0 0 with | .ok _ j => Nat.ble m 30 && Nat.beq (j + 1) T.length | .er _ _ _ c => Nat.blt 30 m && decide (c = 6) | .out => false) = true := hdc2
 rw [← hTl] at hdc2 hT
 generalize T.map toZ = Z at g e1 hdc2 hT
 have pa := fun h => parse_at Z (by omega) (toZ_text g hs) 0 400 (Nat.zero_le _) h
 generalize (fns Z 400).expr 1 0 0 = r at pa hdc2
 unfold rc6_J2
 repeat (refine WR.seq ?_)
 refine WR.reg (WQ.runS [] 1 _ _ _ _ rfl ?_)
 refine WQ.callH rfl rfl rfl rfl rfl (SCall.relc al _) .base rfl ?_
 rw [e1]
 refine WQ.runS [] 1000 _ _ _ _ rfl (WQ.nilS ?_)
 repeat (refine WR.seq ?_)
 refine WR.reg (WQ.runS [] 1 _ _ _ _ rfl ?_)
 cases r with
 | out => cases hdc2
 | er a1 d1 p c =>
  simp only [Bool.and_eq_true, Nat.blt_eq, decide_eq_true_eq] at hdc2
  obtain ⟨q1, rfl⟩ := hdc2
  refine WQ.callH rfl rfl rfl rfl rfl (pa rfl _) .base rfl ?_
  refine WQ.runS [] 1000 _ _ _ _ rfl (WQ.nilS ?_)
  repeat (refine WR.seq ?_)
  refine WR.reg (WQ.runS [] 1000 _ _ _ _ rfl (WQ.nilS ?_))
  repeat (refine WR.seq ?_)
  refine WR.condF rfl (WR.skip ?_)
  repeat (refine WR.seq ?_)
  refine WR.reg (WQ.runS [] 2 _ _ _ _ rfl ?_)
  rw [show decide ((m : Int) > 30) = true from decide_eq_true (by omega)]
  refine WQ.runS [] 1000 _ _ _ _ rfl (WQ.nilS ?_)
  repeat (refine WR.seq ?_)
  refine WR.condT rfl ?_
  repeat (refine WR.seq ?_)
  refine WR.reg (WQ.runS [] 1000 _ _ _ _ rfl (WQ.nilS ?_))
  exact WR.ret ⟨rfl, rfl, ⟨_, rfl, VLe.refl _⟩, fun _ _ => rfl⟩
 | ok x j =>
  simp only [Bool.and_eq_true, Nat.ble_eq] at hdc2
  obtain ⟨q1, q2⟩ := hdc2
  have q2 : j + 1 = Z.length := Nat.eq_of_beq_eq_true q2
  obtain ⟨xk, xa, xe, xn, xv, ⟨xtk, xta, xtp, xtn, xtl⟩, xs⟩ := x
  refine WQ.callH rfl rfl rfl rfl rfl (pa rfl _) .base rfl ?_
  refine WQ.runS [] 1000 _ _ _ _ rfl (WQ.nilS ?_)
  repeat (refine WR.seq ?_)
  refine WR.reg (WQ.runS [] 1000 _ _ _ _ rfl (WQ.nilS ?_))
  repeat (refine WR.seq ?_)
  refine WR.condF rfl (WR.skip ?_)
  repeat (refine WR.seq ?_)
  refine WR.reg (WQ.runS [] 2 _ _ _ _ rfl ?_)
  rw [show decide ((m : Int) > 30) = false from decide_eq_false (by omega)]
  refine WQ.runS [] 1000 _ _ _ _ rfl (WQ.nilS ?_)
  repeat (refine WR.seq ?_)
  refine WR.condF rfl (WR.skip ?_)
  repeat (refine WR.seq ?_)
  refine WR.reg (WQ.runS [] 10 _ _ _ _ rfl ?_)
  rw [List.length_map, ← q2]
  refine WQ.runS [] 1 _ _ _ _ rfl ?_
  rw [subB1 (by omega) (by unfold big; omega), Nat.add_sub_cancel]
  refine WQ.runS [] 1 _ _ _ _ rfl ?_
  rw [show decide ((j : Int) = (j : Int)) = true from decide_eq_true rfl]
  refine WQ.runS [] 1000 _ _ _ _ rfl (WQ.nilS ?_)
  exact WR.ret ⟨rfl, rfl, ⟨_, rfl, VLe.refl _⟩, fun _ _ => rfl⟩
theorem deep_mid (k m : Nat) (hk : k < 3) (hm : m < 70) {tm : TM} (ht : TellT tm [] [(0, .v (.int .i64 m)), (5, .v (.bool true)), (6, .v (.str (opS k))), (7, .v (.str (shS k)))]) :
  WR Go.Proofs.Tryd.prog [0] ⟨Go.Proofs.Tryd.f6.ntmps, none, 6⟩ rc6_J3 (SL.toS ⟨tm, [], none, 1000, tOl, []⟩) (RetS Go.Proofs.Tryd.prog Go.Proofs.Tryd.f6 (.bool true) 1000 tOl) (retX (RetS Go.Proofs.Tryd.prog Go.Proofs.Tryd.f6 (.bool true) 1000 tOl)) := by
 refine WR.weak (SW.tellR ht .nil) ?_
 unfold rc6_J3
 repeat (refine WR.seq ?_)
 refine WR.reg (WQ.runS [] 1000 _ _ _ _ rfl (WQ.nilS ?_))
 repeat (refine WR.seq ?_)
 refine WR.reg (WQ.runS [] 1000 _ _ _ _ rfl (WQ.nilS ?_))
 repeat (refine WR.seq ?_)
 refine WR.block (WR.loop (WLr.weak (s := SL.toS ⟨dpTm k m 0, [], none, 1000, tOl, []⟩) ?_ (deep_loop k m hm (fun tm ht => ?_) m 0 (by omega))))
 ·refine SW.tellR ?_ ?_
  ·repeat (first | exact .nil | refine .cons rfl (.v (VLe.refl _)) ?_ | refine .cons rfl (.l _ _ rfl) ?_ | refine .cons rfl (.v (VLe.unk _ _)) ?_)
  ·repeat (first | exact .nil | refine .cons rfl (.inl rfl) ?_)
 ·exact deep_tail k m hk hm ht
theorem deep_pre (q : Nat) (kind : Int) {tm : TM} (ht : TellT tm [] [(0, .v (.int .i64 q)), (1, .v (.int .i64 kind)), (5, .v (.bool true))]) :
  WR Go.Proofs.Tryd.prog [0] ⟨Go.Proofs.Tryd.f6.ntmps, none, 6⟩ rc6_J5 (SL.toS ⟨tm, [], none, 1000, tOl, []⟩) (RetS Go.Proofs.Tryd.prog Go.Proofs.Tryd.f6 (.bool true) 1000 tOl) (retX (RetS Go.Proofs.Tryd.prog Go.Proofs.Tryd.f6 (.bool true) 1000 tOl)) := by
 refine WR.weak (SW.tellR ht .nil) ?_
 have hm : q % 70 < 70 := Nat.mod_lt _ (by decide)
 unfold rc6_J5
 repeat (refine WR.seq ?_)
 refine WR.reg (WQ.runS [] 2 _ _ _ _ rfl ?_)
 rw [show ((q : Int).tmod 70) = ((q % 70 : Nat) : Int) from rfl]
 generalize q % 70 = m at hm
 refine WQ.runS [] 1000 _ _ _ _ rfl (WQ.nilS ?_)
 repeat (refine WR.seq ?_)
 refine WR.reg (WQ.runS [] 1000 _ _ _ _ rfl (WQ.nilS ?_))
 repeat (refine WR.seq ?_)
 refine WR.reg (WQ.runS [] 1000 _ _ _ _ rfl (WQ.nilS ?_))
 repeat (refine WR.seq ?_)
 refine WR.reg (WQ.runS [] 3 _ _ _ _ rfl ?_)
 cases h0 : decide (kind.tmod 3 = 0) with
 | true =>
  have h0' : kind.tmod 3 = 0 := of_decide_eq_true h0
  refine WQ.runS [] 1000 _ _ _ _ rfl (WQ.nilS ?_)
  repeat (refine WR.seq ?_)
  refine WR.condT rfl ?_
  repeat (refine WR.seq ?_)
  refine WR.reg (WQ.runS [] 1000 _ _ _ _ rfl (WQ.nilS ?_))
  repeat (refine WR.seq ?_)
  refine WR.reg (WQ.runS [] 1000 _ _ _ _ rfl (WQ.nilS ?_))
  unfold rc6_J4
  repeat (refine WR.seq ?_)
  refine WR.reg (WQ.runS [] 2 _ _ _ _ rfl ?_)
  rw [h0']
  refine WQ.runS [] 1000 _ _ _ _ rfl (WQ.nilS ?_)
  repeat (refine WR.seq ?_)
  refine WR.condF rfl (WR.skip ?_)
  refine deep_mid 0 m (by decide) hm ?_
  repeat (first | exact .nil | refine .cons rfl (.v (VLe.refl _)) ?_)
 | false =>
  refine WQ.runS [] 1000 _ _ _ _ rfl (WQ.nilS ?_)
  repeat (refine WR.seq ?_)
  refine WR.condF rfl (WR.skip ?_)
  unfold rc6_J4
  repeat (refine WR.seq ?_)
  refine WR.reg (WQ.runS [] 3 _ _ _ _ rfl ?_)
  cases h1 : decide (kind.tmod 3 = 1) with
  | true =>
   refine WQ.runS [] 1000 _ _ _ _ rfl (WQ.nilS ?_)
   repeat (refine WR.seq ?_)
   refine WR.condT rfl ?_
   repeat (refine WR.seq ?_)
   refine WR.reg (WQ.runS [] 1000 _ _ _ _ rfl (WQ.nilS ?_))
   repeat (refine WR.seq ?_)
   refine WR.reg (WQ.runS [] 1000 _ _ _ _ rfl (WQ.nilS ?_))
   refine deep_mid 1 m (by decide) hm ?_
   repeat (first | exact .nil | refine .cons rfl (.v (VLe.refl _)) ?_)
  | false =>
   refine WQ.runS [] 1000 _ _ _ _ rfl (WQ.nilS ?_)
   repeat (refine WR.seq ?_)
   refine WR.condF rfl (WR.skip ?_)
   refine deep_mid 2 m (by decide) hm ?_
   repeat (first | exact .nil | refine .cons rfl (.v (VLe.refl _)) ?_)
theorem deep_spec (n0 kind : Int) (h1 : -9223372036854775808 ≤ n0) (h2 : n0 < 9223372036854775808) : SCall Go.Proofs.Tryd.prog [0] 6 [.int .i64 n0, .int .i64 kind] none (hT 0 .u8 spaces) (.ret (.bool true)) none (hT 0 .u8 spaces) := by
 show SCall Go.Proofs.Tryd.prog [0] 6 [.int .i64 n0, .int .i64 kind] none ⟨1000, og tOl, []⟩ (.ret (.bool true)) none ⟨1000, og tOl, []⟩
 refine SCall.listed (fn := Go.Proofs.Tryd.f6) (by kernel_rfl) res6 (by kernel_rfl) (by kernel_rfl) (Nat.le_refl _) rfl ((by exact ⟨tabS_in, trivial⟩)) trivial ?_
 unfold rc6
 repeat (refine WR.seq ?_)
 refine WR.reg (WQ.runS [] 1000 _ _ _ _ rfl (WQ.nilS ?_))
 repeat (refine WR.seq ?_)
 refine WR.reg (WQ.callH rfl rfl rfl rfl rfl awake_sp .base rfl ?_)
 refine WQ.runS [] 1000 _ _ _ _ rfl (WQ.nilS ?_)
 repeat (refine WR.seq ?_)
 refine WR.reg (WQ.runS [] 2 _ _ _ _ rfl ?_)
 by_cases hn : n0 < 0
 ·rw [show decide (n0 < 0) = true from decide_eq_true hn]
  refine WQ.runS [] 1000 _ _ _ _ rfl (WQ.nilS ?_)
  repeat (refine WR.seq ?_)
  refine WR.condT rfl ?_
  repeat (refine WR.seq ?_)
  refine WR.reg (WQ.runS [] 2 _ _ _ _ rfl ?_)
  rw [wrap64 (by omega) (by omega)]
  refine WQ.runS [] 1 _ _ _ _ rfl ?_
  obtain ⟨q, hq⟩ : ∃ q : Nat, 0 - (n0 + 1) = (q : Int) := ⟨(0 - (n0 + 1)).toNat, by omega⟩
  rw [hq, wrap64 (by omega) (by omega)]
  refine WQ.runS [] 1000 _ _ _ _ rfl (WQ.nilS ?_)
  refine deep_pre q kind ?_
  repeat (first | exact .nil | refine .cons rfl (.v (VLe.refl _)) ?_)
 ·rw [show decide (n0 < 0) = false from decide_eq_false hn]
  refine WQ.runS [] 1000 _ _ _ _ rfl (WQ.nilS ?_)
  repeat (refine WR.seq ?_)
  refine WR.condF rfl (WR.skip ?_)
  obtain ⟨q, hq⟩ : ∃ q : Nat, n0 = (q : Int) := ⟨n0.toNat, by omega⟩
  subst hq
  refine deep_pre q kind ?_
  repeat (first | exact .nil | refine .cons rfl (.v (VLe.refl _)) ?_)
end Go.VM
end
