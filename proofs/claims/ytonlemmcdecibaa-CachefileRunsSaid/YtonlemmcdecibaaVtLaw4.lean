/- laid for this seat: VtLaw4 -/
import Derived.Test.YtonlemmcdecibaaRcLaws
import Derived.Test.YtonlemmcdecibaaVtSameZ
import Derived.Test.YtonlemmcdecibaaVtStab3
import Derived.Test.YtonlemmcdecibaaVmG
/- CachefileRuns: of any entries what is kept is what the document says. -/
set_option maxRecDepth 100000
set_option linter.unusedVariables false
set_option linter.unusedSimpArgs false
namespace Go.VM
open Go.RowKit
def q4Tm (L : List EZ) (most bytes : Int) (i : Nat) : TM := [(0, .v (.lst (L.map encZ) .unk)), (1, .v (.int .i64 most)), (2, .v (.int .i64 bytes)), (7, .v (.bool true)), (8, .v (.int .i64 i))]
theorem q4_loop {QN : S → Prop} {QX : X → S → Prop} (L : List EZ) (most bytes : Int) (hL : L.length ≤ 4000) : ∀ (m i : Nat), i + m = L.length → (∀ e ∈ L.take i, e.k.length ≤ 500 ∧ e.v.length ≤ 500) →
  (∀ tm, (∀ e ∈ L, e.k.length ≤ 500 ∧ e.v.length ≤ 500) → tg tm 0 = some (.v (.lst (L.map encZ) .unk)) → tg tm 1 = some (.v (.int .i64 most)) → tg tm 2 = some (.v (.int .i64 bytes)) → tg tm 7 = some (.v (.bool true)) → QX (.exit 0) (SL.toS ⟨tm, [], none, 1000, [], []⟩)) →
  (∀ tm, tg tm 6 = some (.v (.bool true)) → QX .ret (SL.toS ⟨tm, [], none, 1000, [], []⟩)) →
  WLr Go.Proofs.Try.prog [] ⟨Go.Proofs.Try.f4.ntmps, none, 4⟩ rc4_L1 (SL.toS ⟨q4Tm L most bytes i, [], none, 1000, [], []⟩) QN QX := by
 intro m
 induction m with
 | zero =>
  intro i hi hs hx hr
  unfold rc4_L1
  refine WLr.of ?_
  refine WR.seq (WR.seq (WR.reg (WQ.runS [] 1000 _ _ _ _ rfl (WQ.nilS ?_))))
  rw [show decide ((i : Int) < ((L.map encZ).length : Int)) = false from decide_eq_false (by rw [List.length_map]; omega)]
  refine WR.condF rfl (WR.exit ?_)
  rw [List.take_of_length_le (by omega)] at hs
  exact hx _ hs rfl rfl rfl rfl
 | succ m ih =>
  intro i hi hs hx hr
  obtain ⟨e, he⟩ : ∃ e, L[i]? = some e := ⟨_, List.getElem?_eq_getElem (by omega)⟩
  have hg : (L.map encZ)[i]? = some (encZ e) := by rw [List.getElem?_map, he]; rfl
  unfold rc4_L1
  refine WLr.of ?_
  refine WR.seq (WR.seq (WR.reg (WQ.runS [] 1000 _ _ _ _ rfl (WQ.nilS ?_))))
  rw [show decide ((i : Int) < ((L.map encZ).length : Int)) = true from decide_eq_true (by rw [List.length_map]; omega)]
  refine WR.condT rfl (WR.skip ?_)
  refine WR.seq (WR.block (WR.seq (WR.reg (WQ.runS [] 2 _ _ _ _ rfl ?_))))
  refine WQ.lightS rfl rfl rfl (ia_at rfl rfl hg rfl) rfl (WQ.runS [] 5 _ _ _ _ rfl ?_)
  by_cases h1 : e.k.length > 500
  ·rw [show decide ((e.k.length : Int) > 500) = true from decide_eq_true (by omega)]
   refine WQ.runS [] 1000 _ _ _ _ rfl (WQ.nilS ?_)
   refine WR.condT rfl (WR.seq (WR.reg (WQ.runS [] 1000 _ _ _ _ rfl (WQ.nilS (WR.ret ?_)))))
   exact hr _ rfl
  rw [show decide ((e.k.length : Int) > 500) = false from decide_eq_false (by omega)]
  refine WQ.runS [] 2 _ _ _ _ rfl ?_
  refine WQ.lightS rfl rfl rfl (ia_at rfl rfl hg rfl) rfl (WQ.runS [] 4 _ _ _ _ rfl ?_)
  by_cases h2 : e.v.length > 500
  ·rw [show decide ((e.v.length : Int) > 500) = true from decide_eq_true (by omega)]
   refine WQ.runS [] 1000 _ _ _ _ rfl (WQ.nilS ?_)
   refine WR.condT rfl (WR.seq (WR.reg (WQ.runS [] 1000 _ _ _ _ rfl (WQ.nilS (WR.ret ?_)))))
   exact hr _ rfl
  rw [show decide ((e.v.length : Int) > 500) = false from decide_eq_false (by omega)]
  refine WQ.runS [] 1000 _ _ _ _ rfl (WQ.nilS ?_)
  refine WR.condF rfl (WR.skip ?_)
  unfold rc4_J1
  repeat (first | refine WR.seq ?_ | refine WR.block ?_ | refine WR.scope ?_ | refine WR.skip ?_ | refine WR.exit ?_ | refine WR.condT rfl ?_ | refine WR.condF rfl ?_ | refine WR.reg (WQ.runS [] 1000 _ _ _ _ rfl ?_) | refine WQ.nilS ?_ | refine WR.dreg hmix (DW.runS [] 1000 _ _ _ _ _ _ rfl ?_))
  rw [show IntKind.i64.wrap ((i : Int) + 1) = ((i + 1 : Nat) : Int) from by rw [wrap64 (by omega) (by omega)]; rfl]
  refine WIr.again (WLr.weak ?_ (ih (i + 1) (by omega) (fun x hx' => ?_) hx hr))
  ·refine SW.tellR ?_ ?_
   ·repeat (first | exact .nil | refine .cons rfl (.v (VLe.refl _)) ?_ | refine .cons rfl (.l _ _ rfl) ?_ | refine .cons rfl (.v (VLe.unk _ _)) ?_)
   ·repeat (first | exact .nil | refine .cons rfl (.inl rfl) ?_)
  ·rw [List.take_add_one, he] at hx'
   rcases List.mem_append.1 hx' with h | h
   ·exact hs x h
   ·simp at h; subst h; omega
theorem q4_tail (L : List EZ) (most bytes : Int) (hL : L.length ≤ 300) (hb1 : -9223372036854775808 ≤ bytes) (hb2 : bytes < 9223372036854775808) (tm : TM) (t0 : tg tm 0 = some (.v (.lst (L.map encZ) .unk))) (t1 : tg tm 1 = some (.v (.int .i64 most))) (t2 : tg tm 2 = some (.v (.int .i64 bytes))) (t7 : tg tm 7 = some (.v (.bool true))) :
  WR Go.Proofs.Try.prog [] ⟨Go.Proofs.Try.f4.ntmps, none, 4⟩ rc4_J3 (SL.toS ⟨tm, [], none, 1000, [], []⟩) (RetS Go.Proofs.Try.prog Go.Proofs.Try.f4 (.bool true) 1000 []) (retX (RetS Go.Proofs.Try.prog Go.Proofs.Try.f4 (.bool true) 1000 [])) := by
 refine WR.weak (s := SL.toS ⟨[(0, .v (.lst (L.map encZ) .unk)), (1, .v (.int .i64 most)), (2, .v (.int .i64 bytes)), (7, .v (.bool true))], [], none, 1000, [], []⟩) (SW.tellR (.cons t0 (.v (VLe.refl _)) (.cons t1 (.v (VLe.refl _)) (.cons t2 (.v (VLe.refl _)) (.cons t7 (.v (VLe.refl _)) .nil)))) .nil) ?_
 unfold rc4_J3
 refine WR.seq (WR.seq (WR.reg (WQ.runS [] 1000 _ _ _ _ rfl (WQ.nilS ?_))))
 refine WR.block (WR.loop (WLr.weak (s := SL.toS ⟨q4Tm L most bytes 0, [], none, 1000, [], []⟩) ?_ (q4_loop L most bytes (by omega) L.length 0 (by omega) (fun x h => by simp at h) (fun tm hs g0 g1 g2 g7 => ?_) (fun tm g6 => ?_))))
 ·refine SW.tellR ?_ ?_
  ·repeat (first | exact .nil | refine .cons rfl (.v (VLe.refl _)) ?_ | refine .cons rfl (.l _ _ rfl) ?_ | refine .cons rfl (.v (VLe.unk _ _)) ?_)
  ·repeat (first | exact .nil | refine .cons rfl (.inl rfl) ?_)
 ·refine WR.weak (s := SL.toS ⟨[(0, .v (.lst (L.map encZ) .unk)), (1, .v (.int .i64 most)), (2, .v (.int .i64 bytes)), (7, .v (.bool true))], [], none, 1000, [], []⟩) (SW.tellR (.cons g0 (.v (VLe.refl _)) (.cons g1 (.v (VLe.refl _)) (.cons g2 (.v (VLe.refl _)) (.cons g7 (.v (VLe.refl _)) .nil)))) .nil) ?_
  have hsz : ∀ e ∈ L, sizeZ e ≤ 1000000000 := fun e he => by have := hs e he; unfold sizeZ; omega
  unfold rc4_J2
  refine WR.seq (WR.reg (WQ.runS [] 5 _ _ _ _ rfl ?_))
  refine WQ.callH rfl rfl rfl rfl rfl (runP_spec L most bytes (by omega) hsz hb1 hb2 _) .base rfl (WQ.runS [] 3 _ _ _ _ rfl ?_)
  refine WQ.callH rfl rfl rfl rfl rfl (runR_spec L most bytes (by omega) hsz hb2 _) .base rfl ?_
  have hlen : (runR L most bytes).length ≤ 1000000 := by rw [← run_same]; have := pickF_len L (keptF L most bytes); have := keptF_len L most bytes; unfold runP; omega
  rw [run_same]
  refine WQ.callH rfl rfl rfl rfl rfl (sameZ_spec (runR L most bytes) hlen _) .base rfl (WQ.runS [] 1000 _ _ _ _ rfl (WQ.nilS ?_))
  refine WR.ret ⟨rfl, rfl, ⟨_, rfl, VLe.refl _⟩, fun b _ => rfl⟩
 ·refine ⟨rfl, rfl, ⟨[.bool true], ?_, VLe.refl _⟩, fun b _ => rfl⟩
  show resV Go.Proofs.Try.prog _ tm [.tmp 6] = _
  have g6 : tg tm 6 = some (.v (.bool true)) := g6
  simp only [resV, g6]
theorem runs_core (L : List EZ) (most bytes : Int) (hb1 : -9223372036854775808 ≤ bytes) (hb2 : bytes < 9223372036854775808) (haw : ∀ h, SCall Go.Proofs.Try.prog [] 11 [] none h (.ret (.bool true)) none h) :
  SCall Go.Proofs.Try.prog [] 4 [.lst (L.map encZ) .unk, .int .i64 most, .int .i64 bytes] none ⟨1000, og [], []⟩ (.ret (.bool true)) none ⟨1000, og [], []⟩ := by
 refine SCall.listed (fn := Go.Proofs.Try.f4) (by kernel_rfl) res4 (by kernel_rfl) (by kernel_rfl) (Nat.le_refl _) rfl (trivial) trivial ?_
 unfold rc4
 refine WR.seq (WR.reg (WQ.runS [] 1000 _ _ _ _ rfl (WQ.nilS ?_)))
 refine WR.seq (WR.reg ?_)
 refine WQ.callH rfl rfl rfl rfl rfl (haw _) .base rfl (WQ.runS [] 1000 _ _ _ _ rfl (WQ.nilS ?_))
 refine WR.seq (WR.seq (WR.reg (WQ.runS [] 1000 _ _ _ _ rfl (WQ.nilS ?_))))
 refine WR.cond rfl (fun h1 => ?_) (fun h1 => ?_)
 ·have h1 := of_decide_eq_true h1
  have hlen : 300 ≤ L.length := by rw [List.length_map] at h1; omega
  refine WR.reg (WQ.runS [] 1 _ _ _ _ rfl ?_)
  refine WQ.lightS rfl rfl rfl (slc_take (n := 300) rfl rfl (by rw [List.length_map]; exact hlen)) rfl (WQ.runS [] 1000 _ _ _ _ rfl (WQ.nilS ?_))
  rw [← List.map_take]
  exact q4_tail (L.take 300) most bytes (by rw [List.length_take]; omega) hb1 hb2 _ rfl rfl rfl rfl
 ·have h1 := of_decide_eq_false h1
  have hlen : L.length ≤ 300 := by rw [List.length_map] at h1; omega
  refine WR.skip ?_
  exact q4_tail L most bytes hlen hb1 hb2 _ rfl rfl rfl rfl
end Go.VM
